/- Part of a proof: of what it says, and when, each theorem tells itself. -/
import Derived.Test.YtpingdgbndmcnaaC01Ir
import Derived.Test.YtpingdgbndmcnaaVmAll2
set_option linter.unusedSimpArgs false
namespace Go.V01
open Go Go.Vm

def u8 (n : Nat) : UInt8 := UInt8.ofNat n
/-- A number's bytes, seven bits each. -/
def numF : Nat → Nat → List UInt8
  | 0, n => [u8 n]
  | k + 1, n => if 127 < n then u8 (128 + n % 128) :: numF k (n / 128) else [u8 n]
def num (n : Nat) : List UInt8 := numF 8 n

theorem eB_append (a b : List UInt8) : eB (a ++ b) = eB a ++ eB b := by simp [eB]
theorem eB_u8 (n : Nat) (h : n < 256) : eB [u8 n] = [[.sc (.int .u8 n)]] := by
  simp only [eB, List.map, byteCell, u8]
  rw [UInt8.toNat_ofNat']
  simp only [Nat.reducePow]
  rw [Nat.mod_eq_of_lt h]

theorem u8_or128 (m : Nat) (h : m < 256) : bits .or .u8 (m : Int) 128 = ((128 + m % 128 : Nat) : Int) := by
  have : ∀ m : Fin 256, bits .or .u8 ((m.val : Nat) : Int) 128 = ((128 + m.val % 128 : Nat) : Int) := by decide +kernel
  exact this ⟨m, h⟩

theorem f12_loop : ∀ (k n : Nat) (out : List UInt8) (h0 : Heap) (s : List VV) (h : Heap) (v : VV) (Q : Pst), n < 128 ^ (k + 1) → n < 9223372036854775808 → out.length + k ≤ 100 → s.length = 22 →
    s.getD 0 .undef = vi .i64 n → s.getD 3 .undef = v → Buf h0 1 (eB out) v h →
    (∀ (n' : Nat) (out' : List UInt8) s' h' v', s'.length = 22 → s'.getD 0 .undef = vi .i64 n' → n' ≤ 127 → s'.getD 3 .undef = v' → Buf h0 1 (eB out') v' h' → out' ++ [u8 n'] = out ++ numF k n → Q (.exit 0) ⟨s', h'⟩) →
    X F (.loop f12_0) ⟨s, h⟩ Q := by
  intro k
  induction k with
  | zero =>
    intro n out h0 s h v Q hn hn2 hlen hs h1 h2 hb hQ
    rw [X_loop, X_eq f12_0.eq_1]
    simp only [X_skip, X_seq, X_reg, X_block, X_scope, X_exit, X_goto, X_ret, X_label, XO_mv, XO_g, XG_tt, XG_tf, XG_ft, XG_ff, XO_bin, XO_cvI, XO_pick, XO_ext, XO_len, XO_mnmx, XD_mv, XD_g, XGD_tt, XGD_tf, XGD_ft, XGD_ff, XD_bin, XD_cvI, XD_pick, XD_ext, XD_len, XD_mnmx, XD_mksl, XD_iadL, XD_ld, XD_fad, XD_nil, XWD_some, XVD_same, XVD_k, XO_alloc, XO_st, XD_st, XO_box, XO_mkslo, XD_mkslo, XO_mrk, XD_mrk, mr_0, XO_build, st_0_2, st_0_3, st_l_2, st_l_3, ld_l_2, ld_l_3, ld_r_2, ld_r_3, ld_l_at, Nat.zero_add, bd_nil, bd_2, bd_3, XD_build, XO_fld, XD_fld, XO_cvBS, XD_cvBS, bs_sl, bs_nil, XO_cvSB, XD_cvSB, sb_txt, XO_slL, XD_slL, Option.map_some, Option.map_none, XO_mksl, XO_iadL, XO_ld, XO_fad, ld_rptr, fd_r, fd_p, fd_e, List.drop_zero, List.drop_succ_cons, mkParts_nil, mkParts_cons, mkO_1, mkO_2, mk_agg2, mk_agg3, src_sl, mmO_min, mmO_max, XW_some, XV_some, ln_nil, ln_sl, ln_own, ln_str, cvO_eq, pkO_t, pkO_f, exO_eq, evalO_t, evalO_c, putD_some, putD_none, slot_len, slot_eq, slot_ne, ne_eq, Nat.reduceLT, Nat.reduceEqDiff, not_false_eq_true, not_true_eq_false, reduceCtorEq, XO_nil, RQ_0, RQ_0n, RQ_1, RQ_2, RQ_3, K_norm, K_exit, K_goto, K_ret, K_pan, B_norm, B_exit, B_goto, B_ret, B_pan, S_norm, S_exit, S_ret, S_pan, X_cnd, XB_true, XB_false, bin_add, bin_sub, bin_mul, bin_and, bin_or, bin_shr, bin_shl, bin_quo, bin_rem, Int.reduceLT, Int.reduceEq, bin_eql, bin_neq, bin_lss, bin_leq, bin_gtr, bin_geq, bin_seql, bin_sneq, decide_true, decide_false, eq_self, if_true, if_false, List.getElem?_cons_zero, List.getElem?_cons_succ, hs, h1]
    refine XB_dec (fun hc => ?_) (fun hc => ?_)
    · omega
    · simp only [X_skip, X_seq, X_reg, X_block, X_scope, X_exit, X_goto, X_ret, X_label, XO_mv, XO_g, XG_tt, XG_tf, XG_ft, XG_ff, XO_bin, XO_cvI, XO_pick, XO_ext, XO_len, XO_mnmx, XD_mv, XD_g, XGD_tt, XGD_tf, XGD_ft, XGD_ff, XD_bin, XD_cvI, XD_pick, XD_ext, XD_len, XD_mnmx, XD_mksl, XD_iadL, XD_ld, XD_fad, XD_nil, XWD_some, XVD_same, XVD_k, XO_alloc, XO_st, XD_st, XO_box, XO_mkslo, XD_mkslo, XO_mrk, XD_mrk, mr_0, XO_build, st_0_2, st_0_3, st_l_2, st_l_3, ld_l_2, ld_l_3, ld_r_2, ld_r_3, ld_l_at, Nat.zero_add, bd_nil, bd_2, bd_3, XD_build, XO_fld, XD_fld, XO_cvBS, XD_cvBS, bs_sl, bs_nil, XO_cvSB, XD_cvSB, sb_txt, XO_slL, XD_slL, Option.map_some, Option.map_none, XO_mksl, XO_iadL, XO_ld, XO_fad, ld_rptr, fd_r, fd_p, fd_e, List.drop_zero, List.drop_succ_cons, mkParts_nil, mkParts_cons, mkO_1, mkO_2, mk_agg2, mk_agg3, src_sl, mmO_min, mmO_max, XW_some, XV_some, ln_nil, ln_sl, ln_own, ln_str, cvO_eq, pkO_t, pkO_f, exO_eq, evalO_t, evalO_c, putD_some, putD_none, slot_len, slot_eq, slot_ne, ne_eq, Nat.reduceLT, Nat.reduceEqDiff, not_false_eq_true, not_true_eq_false, reduceCtorEq, XO_nil, RQ_0, RQ_0n, RQ_1, RQ_2, RQ_3, K_norm, K_exit, K_goto, K_ret, K_pan, B_norm, B_exit, B_goto, B_ret, B_pan, S_norm, S_exit, S_ret, S_pan, X_cnd, XB_true, XB_false, bin_add, bin_sub, bin_mul, bin_and, bin_or, bin_shr, bin_shl, bin_quo, bin_rem, Int.reduceLT, Int.reduceEq, bin_eql, bin_neq, bin_lss, bin_leq, bin_gtr, bin_geq, bin_seql, bin_sneq, decide_true, decide_false, eq_self, if_true, if_false, List.getElem?_cons_zero, List.getElem?_cons_succ]
      refine hQ n out _ h v (by simp only [slot_len, hs]) ?_ (by omega) ?_ hb ?_
      · simp only [slot_ne, ne_eq, Nat.reduceEqDiff, not_false_eq_true, h1]
      · simp only [X_skip, X_seq, X_reg, X_block, X_scope, X_exit, X_goto, X_ret, X_label, XO_mv, XO_g, XG_tt, XG_tf, XG_ft, XG_ff, XO_bin, XO_cvI, XO_pick, XO_ext, XO_len, XO_mnmx, XD_mv, XD_g, XGD_tt, XGD_tf, XGD_ft, XGD_ff, XD_bin, XD_cvI, XD_pick, XD_ext, XD_len, XD_mnmx, XD_mksl, XD_iadL, XD_ld, XD_fad, XD_nil, XWD_some, XVD_same, XVD_k, XO_alloc, XO_st, XD_st, XO_box, XO_mkslo, XD_mkslo, XO_mrk, XD_mrk, mr_0, XO_build, st_0_2, st_0_3, st_l_2, st_l_3, ld_l_2, ld_l_3, ld_r_2, ld_r_3, ld_l_at, Nat.zero_add, bd_nil, bd_2, bd_3, XD_build, XO_fld, XD_fld, XO_cvBS, XD_cvBS, bs_sl, bs_nil, XO_cvSB, XD_cvSB, sb_txt, XO_slL, XD_slL, Option.map_some, Option.map_none, XO_mksl, XO_iadL, XO_ld, XO_fad, ld_rptr, fd_r, fd_p, fd_e, List.drop_zero, List.drop_succ_cons, mkParts_nil, mkParts_cons, mkO_1, mkO_2, mk_agg2, mk_agg3, src_sl, mmO_min, mmO_max, XW_some, XV_some, ln_nil, ln_sl, ln_own, ln_str, cvO_eq, pkO_t, pkO_f, exO_eq, evalO_t, evalO_c, putD_some, putD_none, slot_len, slot_eq, slot_ne, ne_eq, Nat.reduceLT, Nat.reduceEqDiff, not_false_eq_true, not_true_eq_false, reduceCtorEq, XO_nil, RQ_0, RQ_0n, RQ_1, RQ_2, RQ_3, K_norm, K_exit, K_goto, K_ret, K_pan, B_norm, B_exit, B_goto, B_ret, B_pan, S_norm, S_exit, S_ret, S_pan, X_cnd, XB_true, XB_false, bin_add, bin_sub, bin_mul, bin_and, bin_or, bin_shr, bin_shl, bin_quo, bin_rem, Int.reduceLT, Int.reduceEq, bin_eql, bin_neq, bin_lss, bin_leq, bin_gtr, bin_geq, bin_seql, bin_sneq, decide_true, decide_false, eq_self, if_true, if_false, List.getElem?_cons_zero, List.getElem?_cons_succ, hs, h2]
      · rfl
  | succ k ih =>
    intro n out h0 s h v Q hn hn2 hlen hs h1 h2 hb hQ
    rw [X_loop, X_eq f12_0.eq_1]
    simp only [X_skip, X_seq, X_reg, X_block, X_scope, X_exit, X_goto, X_ret, X_label, XO_mv, XO_g, XG_tt, XG_tf, XG_ft, XG_ff, XO_bin, XO_cvI, XO_pick, XO_ext, XO_len, XO_mnmx, XD_mv, XD_g, XGD_tt, XGD_tf, XGD_ft, XGD_ff, XD_bin, XD_cvI, XD_pick, XD_ext, XD_len, XD_mnmx, XD_mksl, XD_iadL, XD_ld, XD_fad, XD_nil, XWD_some, XVD_same, XVD_k, XO_alloc, XO_st, XD_st, XO_box, XO_mkslo, XD_mkslo, XO_mrk, XD_mrk, mr_0, XO_build, st_0_2, st_0_3, st_l_2, st_l_3, ld_l_2, ld_l_3, ld_r_2, ld_r_3, ld_l_at, Nat.zero_add, bd_nil, bd_2, bd_3, XD_build, XO_fld, XD_fld, XO_cvBS, XD_cvBS, bs_sl, bs_nil, XO_cvSB, XD_cvSB, sb_txt, XO_slL, XD_slL, Option.map_some, Option.map_none, XO_mksl, XO_iadL, XO_ld, XO_fad, ld_rptr, fd_r, fd_p, fd_e, List.drop_zero, List.drop_succ_cons, mkParts_nil, mkParts_cons, mkO_1, mkO_2, mk_agg2, mk_agg3, src_sl, mmO_min, mmO_max, XW_some, XV_some, ln_nil, ln_sl, ln_own, ln_str, cvO_eq, pkO_t, pkO_f, exO_eq, evalO_t, evalO_c, putD_some, putD_none, slot_len, slot_eq, slot_ne, ne_eq, Nat.reduceLT, Nat.reduceEqDiff, not_false_eq_true, not_true_eq_false, reduceCtorEq, XO_nil, RQ_0, RQ_0n, RQ_1, RQ_2, RQ_3, K_norm, K_exit, K_goto, K_ret, K_pan, B_norm, B_exit, B_goto, B_ret, B_pan, S_norm, S_exit, S_ret, S_pan, X_cnd, XB_true, XB_false, bin_add, bin_sub, bin_mul, bin_and, bin_or, bin_shr, bin_shl, bin_quo, bin_rem, Int.reduceLT, Int.reduceEq, bin_eql, bin_neq, bin_lss, bin_leq, bin_gtr, bin_geq, bin_seql, bin_sneq, decide_true, decide_false, eq_self, if_true, if_false, List.getElem?_cons_zero, List.getElem?_cons_succ, hs, h1]
    refine XB_dec (fun hc => ?_) (fun hc => ?_)
    · simp only [X_skip, X_seq, X_reg, X_block, X_scope, X_exit, X_goto, X_ret, X_label, XO_mv, XO_g, XG_tt, XG_tf, XG_ft, XG_ff, XO_bin, XO_cvI, XO_pick, XO_ext, XO_len, XO_mnmx, XD_mv, XD_g, XGD_tt, XGD_tf, XGD_ft, XGD_ff, XD_bin, XD_cvI, XD_pick, XD_ext, XD_len, XD_mnmx, XD_mksl, XD_iadL, XD_ld, XD_fad, XD_nil, XWD_some, XVD_same, XVD_k, XO_alloc, XO_st, XD_st, XO_box, XO_mkslo, XD_mkslo, XO_mrk, XD_mrk, mr_0, XO_build, st_0_2, st_0_3, st_l_2, st_l_3, ld_l_2, ld_l_3, ld_r_2, ld_r_3, ld_l_at, Nat.zero_add, bd_nil, bd_2, bd_3, XD_build, XO_fld, XD_fld, XO_cvBS, XD_cvBS, bs_sl, bs_nil, XO_cvSB, XD_cvSB, sb_txt, XO_slL, XD_slL, Option.map_some, Option.map_none, XO_mksl, XO_iadL, XO_ld, XO_fad, ld_rptr, fd_r, fd_p, fd_e, List.drop_zero, List.drop_succ_cons, mkParts_nil, mkParts_cons, mkO_1, mkO_2, mk_agg2, mk_agg3, src_sl, mmO_min, mmO_max, XW_some, XV_some, ln_nil, ln_sl, ln_own, ln_str, cvO_eq, pkO_t, pkO_f, exO_eq, evalO_t, evalO_c, putD_some, putD_none, slot_len, slot_eq, slot_ne, ne_eq, Nat.reduceLT, Nat.reduceEqDiff, not_false_eq_true, not_true_eq_false, reduceCtorEq, XO_nil, RQ_0, RQ_0n, RQ_1, RQ_2, RQ_3, K_norm, K_exit, K_goto, K_ret, K_pan, B_norm, B_exit, B_goto, B_ret, B_pan, S_norm, S_exit, S_ret, S_pan, X_cnd, XB_true, XB_false, bin_add, bin_sub, bin_mul, bin_and, bin_or, bin_shr, bin_shl, bin_quo, bin_rem, Int.reduceLT, Int.reduceEq, bin_eql, bin_neq, bin_lss, bin_leq, bin_gtr, bin_geq, bin_seql, bin_sneq, decide_true, decide_false, eq_self, if_true, if_false, List.getElem?_cons_zero, List.getElem?_cons_succ, hs, h1, h2]
      have e1 : bits .or .u8 (IntKind.u8.wrap n) 128 = ((128 + n % 128 : Nat) : Int) := by
        rw [IntKind.wrap_u8]
        have hm : ((n : Int) % 256) = ((n % 256 : Nat) : Int) := by omega
        rw [hm]
        have := u8_or128 (n % 256) (by omega)
        rw [this]
        omega
      rw [e1]
      refine XO_app (new := eB [u8 (128 + n % 128)]) hb (by simp only [X_skip, X_seq, X_reg, X_block, X_scope, X_exit, X_goto, X_ret, X_label, XO_mv, XO_g, XG_tt, XG_tf, XG_ft, XG_ff, XO_bin, XO_cvI, XO_pick, XO_ext, XO_len, XO_mnmx, XD_mv, XD_g, XGD_tt, XGD_tf, XGD_ft, XGD_ff, XD_bin, XD_cvI, XD_pick, XD_ext, XD_len, XD_mnmx, XD_mksl, XD_iadL, XD_ld, XD_fad, XD_nil, XWD_some, XVD_same, XVD_k, XO_alloc, XO_st, XD_st, XO_box, XO_mkslo, XD_mkslo, XO_mrk, XD_mrk, mr_0, XO_build, st_0_2, st_0_3, st_l_2, st_l_3, ld_l_2, ld_l_3, ld_r_2, ld_r_3, ld_l_at, Nat.zero_add, bd_nil, bd_2, bd_3, XD_build, XO_fld, XD_fld, XO_cvBS, XD_cvBS, bs_sl, bs_nil, XO_cvSB, XD_cvSB, sb_txt, XO_slL, XD_slL, Option.map_some, Option.map_none, XO_mksl, XO_iadL, XO_ld, XO_fad, ld_rptr, fd_r, fd_p, fd_e, List.drop_zero, List.drop_succ_cons, mkParts_nil, mkParts_cons, mkO_1, mkO_2, mk_agg2, mk_agg3, src_sl, mmO_min, mmO_max, XW_some, XV_some, ln_nil, ln_sl, ln_own, ln_str, cvO_eq, pkO_t, pkO_f, exO_eq, evalO_t, evalO_c, putD_some, putD_none, slot_len, slot_eq, slot_ne, ne_eq, Nat.reduceLT, Nat.reduceEqDiff, not_false_eq_true, not_true_eq_false, reduceCtorEq, XO_nil, RQ_0, RQ_0n, RQ_1, RQ_2, RQ_3, K_norm, K_exit, K_goto, K_ret, K_pan, B_norm, B_exit, B_goto, B_ret, B_pan, S_norm, S_exit, S_ret, S_pan, X_cnd, XB_true, XB_false, bin_add, bin_sub, bin_mul, bin_and, bin_or, bin_shr, bin_shl, bin_quo, bin_rem, Int.reduceLT, Int.reduceEq, bin_eql, bin_neq, bin_lss, bin_leq, bin_gtr, bin_geq, bin_seql, bin_sneq, decide_true, decide_false, eq_self, if_true, if_false, List.getElem?_cons_zero, List.getElem?_cons_succ, hs]) ?_ ?_ ?_ (fun v' h' hb' => ?_)
      · simp only [X_skip, X_seq, X_reg, X_block, X_scope, X_exit, X_goto, X_ret, X_label, XO_mv, XO_g, XG_tt, XG_tf, XG_ft, XG_ff, XO_bin, XO_cvI, XO_pick, XO_ext, XO_len, XO_mnmx, XD_mv, XD_g, XGD_tt, XGD_tf, XGD_ft, XGD_ff, XD_bin, XD_cvI, XD_pick, XD_ext, XD_len, XD_mnmx, XD_mksl, XD_iadL, XD_ld, XD_fad, XD_nil, XWD_some, XVD_same, XVD_k, XO_alloc, XO_st, XD_st, XO_box, XO_mkslo, XD_mkslo, XO_mrk, XD_mrk, mr_0, XO_build, st_0_2, st_0_3, st_l_2, st_l_3, ld_l_2, ld_l_3, ld_r_2, ld_r_3, ld_l_at, Nat.zero_add, bd_nil, bd_2, bd_3, XD_build, XO_fld, XD_fld, XO_cvBS, XD_cvBS, bs_sl, bs_nil, XO_cvSB, XD_cvSB, sb_txt, XO_slL, XD_slL, Option.map_some, Option.map_none, XO_mksl, XO_iadL, XO_ld, XO_fad, ld_rptr, fd_r, fd_p, fd_e, List.drop_zero, List.drop_succ_cons, mkParts_nil, mkParts_cons, mkO_1, mkO_2, mk_agg2, mk_agg3, src_sl, mmO_min, mmO_max, XW_some, XV_some, ln_nil, ln_sl, ln_own, ln_str, cvO_eq, pkO_t, pkO_f, exO_eq, evalO_t, evalO_c, putD_some, putD_none, slot_len, slot_eq, slot_ne, ne_eq, Nat.reduceLT, Nat.reduceEqDiff, not_false_eq_true, not_true_eq_false, reduceCtorEq, XO_nil, RQ_0, RQ_0n, RQ_1, RQ_2, RQ_3, K_norm, K_exit, K_goto, K_ret, K_pan, B_norm, B_exit, B_goto, B_ret, B_pan, S_norm, S_exit, S_ret, S_pan, X_cnd, XB_true, XB_false, bin_add, bin_sub, bin_mul, bin_and, bin_or, bin_shr, bin_shl, bin_quo, bin_rem, Int.reduceLT, Int.reduceEq, bin_eql, bin_neq, bin_lss, bin_leq, bin_gtr, bin_geq, bin_seql, bin_sneq, decide_true, decide_false, eq_self, if_true, if_false, List.getElem?_cons_zero, List.getElem?_cons_succ, hs]
        rw [eB_u8 _ (by omega)]
      · simp [eB]; omega
      · simp [eB]; omega
      · simp only [X_skip, X_seq, X_reg, X_block, X_scope, X_exit, X_goto, X_ret, X_label, XO_mv, XO_g, XG_tt, XG_tf, XG_ft, XG_ff, XO_bin, XO_cvI, XO_pick, XO_ext, XO_len, XO_mnmx, XD_mv, XD_g, XGD_tt, XGD_tf, XGD_ft, XGD_ff, XD_bin, XD_cvI, XD_pick, XD_ext, XD_len, XD_mnmx, XD_mksl, XD_iadL, XD_ld, XD_fad, XD_nil, XWD_some, XVD_same, XVD_k, XO_alloc, XO_st, XD_st, XO_box, XO_mkslo, XD_mkslo, XO_mrk, XD_mrk, mr_0, XO_build, st_0_2, st_0_3, st_l_2, st_l_3, ld_l_2, ld_l_3, ld_r_2, ld_r_3, ld_l_at, Nat.zero_add, bd_nil, bd_2, bd_3, XD_build, XO_fld, XD_fld, XO_cvBS, XD_cvBS, bs_sl, bs_nil, XO_cvSB, XD_cvSB, sb_txt, XO_slL, XD_slL, Option.map_some, Option.map_none, XO_mksl, XO_iadL, XO_ld, XO_fad, ld_rptr, fd_r, fd_p, fd_e, List.drop_zero, List.drop_succ_cons, mkParts_nil, mkParts_cons, mkO_1, mkO_2, mk_agg2, mk_agg3, src_sl, mmO_min, mmO_max, XW_some, XV_some, ln_nil, ln_sl, ln_own, ln_str, cvO_eq, pkO_t, pkO_f, exO_eq, evalO_t, evalO_c, putD_some, putD_none, slot_len, slot_eq, slot_ne, ne_eq, Nat.reduceLT, Nat.reduceEqDiff, not_false_eq_true, not_true_eq_false, reduceCtorEq, XO_nil, RQ_0, RQ_0n, RQ_1, RQ_2, RQ_3, K_norm, K_exit, K_goto, K_ret, K_pan, B_norm, B_exit, B_goto, B_ret, B_pan, S_norm, S_exit, S_ret, S_pan, X_cnd, XB_true, XB_false, bin_add, bin_sub, bin_mul, bin_and, bin_or, bin_shr, bin_shl, bin_quo, bin_rem, Int.reduceLT, Int.reduceEq, bin_eql, bin_neq, bin_lss, bin_leq, bin_gtr, bin_geq, bin_seql, bin_sneq, decide_true, decide_false, eq_self, if_true, if_false, List.getElem?_cons_zero, List.getElem?_cons_succ, hs, h1, bin_shr, not_false_eq_true]
        have e2 : ((n : Int).fdiv (2 ^ min (7 : Int).toNat IntKind.i64.bits)) = ((n / 128 : Nat) : Int) := by
          have : (2 : Int) ^ min (7 : Int).toNat IntKind.i64.bits = 128 := by decide
          rw [this, Int.fdiv_eq_ediv_of_nonneg _ (by decide)]
          omega
        rw [e2]
        rw [← eB_append] at hb'
        refine ih (n / 128) (out ++ [u8 (128 + n % 128)]) h0 _ h' v' Q ?_ ?_ ?_ ?_ ?_ ?_ hb' ?_
        · rw [Nat.pow_succ] at hn
          omega
        · omega
        · simp; omega
        · simp only [X_skip, X_seq, X_reg, X_block, X_scope, X_exit, X_goto, X_ret, X_label, XO_mv, XO_g, XG_tt, XG_tf, XG_ft, XG_ff, XO_bin, XO_cvI, XO_pick, XO_ext, XO_len, XO_mnmx, XD_mv, XD_g, XGD_tt, XGD_tf, XGD_ft, XGD_ff, XD_bin, XD_cvI, XD_pick, XD_ext, XD_len, XD_mnmx, XD_mksl, XD_iadL, XD_ld, XD_fad, XD_nil, XWD_some, XVD_same, XVD_k, XO_alloc, XO_st, XD_st, XO_box, XO_mkslo, XD_mkslo, XO_mrk, XD_mrk, mr_0, XO_build, st_0_2, st_0_3, st_l_2, st_l_3, ld_l_2, ld_l_3, ld_r_2, ld_r_3, ld_l_at, Nat.zero_add, bd_nil, bd_2, bd_3, XD_build, XO_fld, XD_fld, XO_cvBS, XD_cvBS, bs_sl, bs_nil, XO_cvSB, XD_cvSB, sb_txt, XO_slL, XD_slL, Option.map_some, Option.map_none, XO_mksl, XO_iadL, XO_ld, XO_fad, ld_rptr, fd_r, fd_p, fd_e, List.drop_zero, List.drop_succ_cons, mkParts_nil, mkParts_cons, mkO_1, mkO_2, mk_agg2, mk_agg3, src_sl, mmO_min, mmO_max, XW_some, XV_some, ln_nil, ln_sl, ln_own, ln_str, cvO_eq, pkO_t, pkO_f, exO_eq, evalO_t, evalO_c, putD_some, putD_none, slot_len, slot_eq, slot_ne, ne_eq, Nat.reduceLT, Nat.reduceEqDiff, not_false_eq_true, not_true_eq_false, reduceCtorEq, XO_nil, RQ_0, RQ_0n, RQ_1, RQ_2, RQ_3, K_norm, K_exit, K_goto, K_ret, K_pan, B_norm, B_exit, B_goto, B_ret, B_pan, S_norm, S_exit, S_ret, S_pan, X_cnd, XB_true, XB_false, bin_add, bin_sub, bin_mul, bin_and, bin_or, bin_shr, bin_shl, bin_quo, bin_rem, Int.reduceLT, Int.reduceEq, bin_eql, bin_neq, bin_lss, bin_leq, bin_gtr, bin_geq, bin_seql, bin_sneq, decide_true, decide_false, eq_self, if_true, if_false, List.getElem?_cons_zero, List.getElem?_cons_succ, hs]
        · simp only [X_skip, X_seq, X_reg, X_block, X_scope, X_exit, X_goto, X_ret, X_label, XO_mv, XO_g, XG_tt, XG_tf, XG_ft, XG_ff, XO_bin, XO_cvI, XO_pick, XO_ext, XO_len, XO_mnmx, XD_mv, XD_g, XGD_tt, XGD_tf, XGD_ft, XGD_ff, XD_bin, XD_cvI, XD_pick, XD_ext, XD_len, XD_mnmx, XD_mksl, XD_iadL, XD_ld, XD_fad, XD_nil, XWD_some, XVD_same, XVD_k, XO_alloc, XO_st, XD_st, XO_box, XO_mkslo, XD_mkslo, XO_mrk, XD_mrk, mr_0, XO_build, st_0_2, st_0_3, st_l_2, st_l_3, ld_l_2, ld_l_3, ld_r_2, ld_r_3, ld_l_at, Nat.zero_add, bd_nil, bd_2, bd_3, XD_build, XO_fld, XD_fld, XO_cvBS, XD_cvBS, bs_sl, bs_nil, XO_cvSB, XD_cvSB, sb_txt, XO_slL, XD_slL, Option.map_some, Option.map_none, XO_mksl, XO_iadL, XO_ld, XO_fad, ld_rptr, fd_r, fd_p, fd_e, List.drop_zero, List.drop_succ_cons, mkParts_nil, mkParts_cons, mkO_1, mkO_2, mk_agg2, mk_agg3, src_sl, mmO_min, mmO_max, XW_some, XV_some, ln_nil, ln_sl, ln_own, ln_str, cvO_eq, pkO_t, pkO_f, exO_eq, evalO_t, evalO_c, putD_some, putD_none, slot_len, slot_eq, slot_ne, ne_eq, Nat.reduceLT, Nat.reduceEqDiff, not_false_eq_true, not_true_eq_false, reduceCtorEq, XO_nil, RQ_0, RQ_0n, RQ_1, RQ_2, RQ_3, K_norm, K_exit, K_goto, K_ret, K_pan, B_norm, B_exit, B_goto, B_ret, B_pan, S_norm, S_exit, S_ret, S_pan, X_cnd, XB_true, XB_false, bin_add, bin_sub, bin_mul, bin_and, bin_or, bin_shr, bin_shl, bin_quo, bin_rem, Int.reduceLT, Int.reduceEq, bin_eql, bin_neq, bin_lss, bin_leq, bin_gtr, bin_geq, bin_seql, bin_sneq, decide_true, decide_false, eq_self, if_true, if_false, List.getElem?_cons_zero, List.getElem?_cons_succ, hs]
        · simp only [X_skip, X_seq, X_reg, X_block, X_scope, X_exit, X_goto, X_ret, X_label, XO_mv, XO_g, XG_tt, XG_tf, XG_ft, XG_ff, XO_bin, XO_cvI, XO_pick, XO_ext, XO_len, XO_mnmx, XD_mv, XD_g, XGD_tt, XGD_tf, XGD_ft, XGD_ff, XD_bin, XD_cvI, XD_pick, XD_ext, XD_len, XD_mnmx, XD_mksl, XD_iadL, XD_ld, XD_fad, XD_nil, XWD_some, XVD_same, XVD_k, XO_alloc, XO_st, XD_st, XO_box, XO_mkslo, XD_mkslo, XO_mrk, XD_mrk, mr_0, XO_build, st_0_2, st_0_3, st_l_2, st_l_3, ld_l_2, ld_l_3, ld_r_2, ld_r_3, ld_l_at, Nat.zero_add, bd_nil, bd_2, bd_3, XD_build, XO_fld, XD_fld, XO_cvBS, XD_cvBS, bs_sl, bs_nil, XO_cvSB, XD_cvSB, sb_txt, XO_slL, XD_slL, Option.map_some, Option.map_none, XO_mksl, XO_iadL, XO_ld, XO_fad, ld_rptr, fd_r, fd_p, fd_e, List.drop_zero, List.drop_succ_cons, mkParts_nil, mkParts_cons, mkO_1, mkO_2, mk_agg2, mk_agg3, src_sl, mmO_min, mmO_max, XW_some, XV_some, ln_nil, ln_sl, ln_own, ln_str, cvO_eq, pkO_t, pkO_f, exO_eq, evalO_t, evalO_c, putD_some, putD_none, slot_len, slot_eq, slot_ne, ne_eq, Nat.reduceLT, Nat.reduceEqDiff, not_false_eq_true, not_true_eq_false, reduceCtorEq, XO_nil, RQ_0, RQ_0n, RQ_1, RQ_2, RQ_3, K_norm, K_exit, K_goto, K_ret, K_pan, B_norm, B_exit, B_goto, B_ret, B_pan, S_norm, S_exit, S_ret, S_pan, X_cnd, XB_true, XB_false, bin_add, bin_sub, bin_mul, bin_and, bin_or, bin_shr, bin_shl, bin_quo, bin_rem, Int.reduceLT, Int.reduceEq, bin_eql, bin_neq, bin_lss, bin_leq, bin_gtr, bin_geq, bin_seql, bin_sneq, decide_true, decide_false, eq_self, if_true, if_false, List.getElem?_cons_zero, List.getElem?_cons_succ, hs]
        · intro n' out' s' h'' v'' a1 a2 a3 a4 a5 a6
          refine hQ n' out' s' h'' v'' a1 a2 a3 a4 a5 ?_
          rw [a6]
          have : 127 < n := by omega
          simp [numF, this]
    · simp only [X_skip, X_seq, X_reg, X_block, X_scope, X_exit, X_goto, X_ret, X_label, XO_mv, XO_g, XG_tt, XG_tf, XG_ft, XG_ff, XO_bin, XO_cvI, XO_pick, XO_ext, XO_len, XO_mnmx, XD_mv, XD_g, XGD_tt, XGD_tf, XGD_ft, XGD_ff, XD_bin, XD_cvI, XD_pick, XD_ext, XD_len, XD_mnmx, XD_mksl, XD_iadL, XD_ld, XD_fad, XD_nil, XWD_some, XVD_same, XVD_k, XO_alloc, XO_st, XD_st, XO_box, XO_mkslo, XD_mkslo, XO_mrk, XD_mrk, mr_0, XO_build, st_0_2, st_0_3, st_l_2, st_l_3, ld_l_2, ld_l_3, ld_r_2, ld_r_3, ld_l_at, Nat.zero_add, bd_nil, bd_2, bd_3, XD_build, XO_fld, XD_fld, XO_cvBS, XD_cvBS, bs_sl, bs_nil, XO_cvSB, XD_cvSB, sb_txt, XO_slL, XD_slL, Option.map_some, Option.map_none, XO_mksl, XO_iadL, XO_ld, XO_fad, ld_rptr, fd_r, fd_p, fd_e, List.drop_zero, List.drop_succ_cons, mkParts_nil, mkParts_cons, mkO_1, mkO_2, mk_agg2, mk_agg3, src_sl, mmO_min, mmO_max, XW_some, XV_some, ln_nil, ln_sl, ln_own, ln_str, cvO_eq, pkO_t, pkO_f, exO_eq, evalO_t, evalO_c, putD_some, putD_none, slot_len, slot_eq, slot_ne, ne_eq, Nat.reduceLT, Nat.reduceEqDiff, not_false_eq_true, not_true_eq_false, reduceCtorEq, XO_nil, RQ_0, RQ_0n, RQ_1, RQ_2, RQ_3, K_norm, K_exit, K_goto, K_ret, K_pan, B_norm, B_exit, B_goto, B_ret, B_pan, S_norm, S_exit, S_ret, S_pan, X_cnd, XB_true, XB_false, bin_add, bin_sub, bin_mul, bin_and, bin_or, bin_shr, bin_shl, bin_quo, bin_rem, Int.reduceLT, Int.reduceEq, bin_eql, bin_neq, bin_lss, bin_leq, bin_gtr, bin_geq, bin_seql, bin_sneq, decide_true, decide_false, eq_self, if_true, if_false, List.getElem?_cons_zero, List.getElem?_cons_succ]
      refine hQ n out _ h v (by simp only [slot_len, hs]) ?_ (by omega) ?_ hb ?_
      · simp only [X_skip, X_seq, X_reg, X_block, X_scope, X_exit, X_goto, X_ret, X_label, XO_mv, XO_g, XG_tt, XG_tf, XG_ft, XG_ff, XO_bin, XO_cvI, XO_pick, XO_ext, XO_len, XO_mnmx, XD_mv, XD_g, XGD_tt, XGD_tf, XGD_ft, XGD_ff, XD_bin, XD_cvI, XD_pick, XD_ext, XD_len, XD_mnmx, XD_mksl, XD_iadL, XD_ld, XD_fad, XD_nil, XWD_some, XVD_same, XVD_k, XO_alloc, XO_st, XD_st, XO_box, XO_mkslo, XD_mkslo, XO_mrk, XD_mrk, mr_0, XO_build, st_0_2, st_0_3, st_l_2, st_l_3, ld_l_2, ld_l_3, ld_r_2, ld_r_3, ld_l_at, Nat.zero_add, bd_nil, bd_2, bd_3, XD_build, XO_fld, XD_fld, XO_cvBS, XD_cvBS, bs_sl, bs_nil, XO_cvSB, XD_cvSB, sb_txt, XO_slL, XD_slL, Option.map_some, Option.map_none, XO_mksl, XO_iadL, XO_ld, XO_fad, ld_rptr, fd_r, fd_p, fd_e, List.drop_zero, List.drop_succ_cons, mkParts_nil, mkParts_cons, mkO_1, mkO_2, mk_agg2, mk_agg3, src_sl, mmO_min, mmO_max, XW_some, XV_some, ln_nil, ln_sl, ln_own, ln_str, cvO_eq, pkO_t, pkO_f, exO_eq, evalO_t, evalO_c, putD_some, putD_none, slot_len, slot_eq, slot_ne, ne_eq, Nat.reduceLT, Nat.reduceEqDiff, not_false_eq_true, not_true_eq_false, reduceCtorEq, XO_nil, RQ_0, RQ_0n, RQ_1, RQ_2, RQ_3, K_norm, K_exit, K_goto, K_ret, K_pan, B_norm, B_exit, B_goto, B_ret, B_pan, S_norm, S_exit, S_ret, S_pan, X_cnd, XB_true, XB_false, bin_add, bin_sub, bin_mul, bin_and, bin_or, bin_shr, bin_shl, bin_quo, bin_rem, Int.reduceLT, Int.reduceEq, bin_eql, bin_neq, bin_lss, bin_leq, bin_gtr, bin_geq, bin_seql, bin_sneq, decide_true, decide_false, eq_self, if_true, if_false, List.getElem?_cons_zero, List.getElem?_cons_succ, hs, h1]
      · simp only [X_skip, X_seq, X_reg, X_block, X_scope, X_exit, X_goto, X_ret, X_label, XO_mv, XO_g, XG_tt, XG_tf, XG_ft, XG_ff, XO_bin, XO_cvI, XO_pick, XO_ext, XO_len, XO_mnmx, XD_mv, XD_g, XGD_tt, XGD_tf, XGD_ft, XGD_ff, XD_bin, XD_cvI, XD_pick, XD_ext, XD_len, XD_mnmx, XD_mksl, XD_iadL, XD_ld, XD_fad, XD_nil, XWD_some, XVD_same, XVD_k, XO_alloc, XO_st, XD_st, XO_box, XO_mkslo, XD_mkslo, XO_mrk, XD_mrk, mr_0, XO_build, st_0_2, st_0_3, st_l_2, st_l_3, ld_l_2, ld_l_3, ld_r_2, ld_r_3, ld_l_at, Nat.zero_add, bd_nil, bd_2, bd_3, XD_build, XO_fld, XD_fld, XO_cvBS, XD_cvBS, bs_sl, bs_nil, XO_cvSB, XD_cvSB, sb_txt, XO_slL, XD_slL, Option.map_some, Option.map_none, XO_mksl, XO_iadL, XO_ld, XO_fad, ld_rptr, fd_r, fd_p, fd_e, List.drop_zero, List.drop_succ_cons, mkParts_nil, mkParts_cons, mkO_1, mkO_2, mk_agg2, mk_agg3, src_sl, mmO_min, mmO_max, XW_some, XV_some, ln_nil, ln_sl, ln_own, ln_str, cvO_eq, pkO_t, pkO_f, exO_eq, evalO_t, evalO_c, putD_some, putD_none, slot_len, slot_eq, slot_ne, ne_eq, Nat.reduceLT, Nat.reduceEqDiff, not_false_eq_true, not_true_eq_false, reduceCtorEq, XO_nil, RQ_0, RQ_0n, RQ_1, RQ_2, RQ_3, K_norm, K_exit, K_goto, K_ret, K_pan, B_norm, B_exit, B_goto, B_ret, B_pan, S_norm, S_exit, S_ret, S_pan, X_cnd, XB_true, XB_false, bin_add, bin_sub, bin_mul, bin_and, bin_or, bin_shr, bin_shl, bin_quo, bin_rem, Int.reduceLT, Int.reduceEq, bin_eql, bin_neq, bin_lss, bin_leq, bin_gtr, bin_geq, bin_seql, bin_sneq, decide_true, decide_false, eq_self, if_true, if_false, List.getElem?_cons_zero, List.getElem?_cons_succ, hs, h2]
      · have : ¬ 127 < n := by omega
        simp only [numF, if_neg this]

def clamp (n : Int) : Nat := (max 0 (min n 9007199254740992)).toNat

theorem numF_le : ∀ k n, (numF k n).length ≤ k + 1
  | 0, _ => by simp [numF]
  | k + 1, n => by
    simp only [numF]
    split
    · simp only [List.length_cons]
      have := numF_le k (n / 128)
      omega
    · simp

theorem num_f12 (n : Int) (h : Heap) : ∃ v h', call F 12 [vi .i64 n] h = some (.ret v, h') ∧ Buf h 1 (eB (num (clamp n))) v h' := by
  refine call_E (fn := f12) rfl ?_
  simp only [f12, List.length_cons, List.length_nil, List.cons_append, List.nil_append]
  generalize hs0 : (vi .i64 n :: List.replicate (22 - (0 + 1)) VV.undef) = s
  have hs : s.length = 22 := by rw [← hs0]; rfl
  have h0 : s.getD 0 .undef = vi .i64 n := by rw [← hs0]; rfl
  clear hs0
  simp only [X_skip, X_seq, X_reg, X_block, X_scope, X_exit, X_goto, X_ret, X_label, XO_mv, XO_g, XG_tt, XG_tf, XG_ft, XG_ff, XO_bin, XO_cvI, XO_pick, XO_ext, XO_len, XO_mnmx, XD_mv, XD_g, XGD_tt, XGD_tf, XGD_ft, XGD_ff, XD_bin, XD_cvI, XD_pick, XD_ext, XD_len, XD_mnmx, XD_mksl, XD_iadL, XD_ld, XD_fad, XD_nil, XWD_some, XVD_same, XVD_k, XO_alloc, XO_st, XD_st, XO_box, XO_mkslo, XD_mkslo, XO_mrk, XD_mrk, mr_0, XO_build, st_0_2, st_0_3, st_l_2, st_l_3, ld_l_2, ld_l_3, ld_r_2, ld_r_3, ld_l_at, Nat.zero_add, bd_nil, bd_2, bd_3, XD_build, XO_fld, XD_fld, XO_cvBS, XD_cvBS, bs_sl, bs_nil, XO_cvSB, XD_cvSB, sb_txt, XO_slL, XD_slL, Option.map_some, Option.map_none, XO_mksl, XO_iadL, XO_ld, XO_fad, ld_rptr, fd_r, fd_p, fd_e, List.drop_zero, List.drop_succ_cons, mkParts_nil, mkParts_cons, mkO_1, mkO_2, mk_agg2, mk_agg3, src_sl, mmO_min, mmO_max, XW_some, XV_some, ln_nil, ln_sl, ln_own, ln_str, cvO_eq, pkO_t, pkO_f, exO_eq, evalO_t, evalO_c, putD_some, putD_none, slot_len, slot_eq, slot_ne, ne_eq, Nat.reduceLT, Nat.reduceEqDiff, not_false_eq_true, not_true_eq_false, reduceCtorEq, XO_nil, RQ_0, RQ_0n, RQ_1, RQ_2, RQ_3, K_norm, K_exit, K_goto, K_ret, K_pan, B_norm, B_exit, B_goto, B_ret, B_pan, S_norm, S_exit, S_ret, S_pan, X_cnd, XB_true, XB_false, bin_add, bin_sub, bin_mul, bin_and, bin_or, bin_shr, bin_shl, bin_quo, bin_rem, Int.reduceLT, Int.reduceEq, bin_eql, bin_neq, bin_lss, bin_leq, bin_gtr, bin_geq, bin_seql, bin_sneq, decide_true, decide_false, eq_self, if_true, if_false, List.getElem?_cons_zero, List.getElem?_cons_succ, hs, h0]
  have ec : max 0 (min n 9007199254740992) = ((clamp n : Nat) : Int) := by unfold clamp; omega
  have hc : clamp n ≤ 9007199254740992 := by unfold clamp; omega
  refine f12_loop 8 (clamp n) [] h _ h nilS _ ?_ ?_ ?_ ?_ ?_ ?_ (Buf.nil _ _) ?_
  · have : (128 : Nat) ^ (8 + 1) = 9223372036854775808 := by decide
    omega
  · omega
  · decide
  · simp only [X_skip, X_seq, X_reg, X_block, X_scope, X_exit, X_goto, X_ret, X_label, XO_mv, XO_g, XG_tt, XG_tf, XG_ft, XG_ff, XO_bin, XO_cvI, XO_pick, XO_ext, XO_len, XO_mnmx, XD_mv, XD_g, XGD_tt, XGD_tf, XGD_ft, XGD_ff, XD_bin, XD_cvI, XD_pick, XD_ext, XD_len, XD_mnmx, XD_mksl, XD_iadL, XD_ld, XD_fad, XD_nil, XWD_some, XVD_same, XVD_k, XO_alloc, XO_st, XD_st, XO_box, XO_mkslo, XD_mkslo, XO_mrk, XD_mrk, mr_0, XO_build, st_0_2, st_0_3, st_l_2, st_l_3, ld_l_2, ld_l_3, ld_r_2, ld_r_3, ld_l_at, Nat.zero_add, bd_nil, bd_2, bd_3, XD_build, XO_fld, XD_fld, XO_cvBS, XD_cvBS, bs_sl, bs_nil, XO_cvSB, XD_cvSB, sb_txt, XO_slL, XD_slL, Option.map_some, Option.map_none, XO_mksl, XO_iadL, XO_ld, XO_fad, ld_rptr, fd_r, fd_p, fd_e, List.drop_zero, List.drop_succ_cons, mkParts_nil, mkParts_cons, mkO_1, mkO_2, mk_agg2, mk_agg3, src_sl, mmO_min, mmO_max, XW_some, XV_some, ln_nil, ln_sl, ln_own, ln_str, cvO_eq, pkO_t, pkO_f, exO_eq, evalO_t, evalO_c, putD_some, putD_none, slot_len, slot_eq, slot_ne, ne_eq, Nat.reduceLT, Nat.reduceEqDiff, not_false_eq_true, not_true_eq_false, reduceCtorEq, XO_nil, RQ_0, RQ_0n, RQ_1, RQ_2, RQ_3, K_norm, K_exit, K_goto, K_ret, K_pan, B_norm, B_exit, B_goto, B_ret, B_pan, S_norm, S_exit, S_ret, S_pan, X_cnd, XB_true, XB_false, bin_add, bin_sub, bin_mul, bin_and, bin_or, bin_shr, bin_shl, bin_quo, bin_rem, Int.reduceLT, Int.reduceEq, bin_eql, bin_neq, bin_lss, bin_leq, bin_gtr, bin_geq, bin_seql, bin_sneq, decide_true, decide_false, eq_self, if_true, if_false, List.getElem?_cons_zero, List.getElem?_cons_succ, hs]
  · simp only [X_skip, X_seq, X_reg, X_block, X_scope, X_exit, X_goto, X_ret, X_label, XO_mv, XO_g, XG_tt, XG_tf, XG_ft, XG_ff, XO_bin, XO_cvI, XO_pick, XO_ext, XO_len, XO_mnmx, XD_mv, XD_g, XGD_tt, XGD_tf, XGD_ft, XGD_ff, XD_bin, XD_cvI, XD_pick, XD_ext, XD_len, XD_mnmx, XD_mksl, XD_iadL, XD_ld, XD_fad, XD_nil, XWD_some, XVD_same, XVD_k, XO_alloc, XO_st, XD_st, XO_box, XO_mkslo, XD_mkslo, XO_mrk, XD_mrk, mr_0, XO_build, st_0_2, st_0_3, st_l_2, st_l_3, ld_l_2, ld_l_3, ld_r_2, ld_r_3, ld_l_at, Nat.zero_add, bd_nil, bd_2, bd_3, XD_build, XO_fld, XD_fld, XO_cvBS, XD_cvBS, bs_sl, bs_nil, XO_cvSB, XD_cvSB, sb_txt, XO_slL, XD_slL, Option.map_some, Option.map_none, XO_mksl, XO_iadL, XO_ld, XO_fad, ld_rptr, fd_r, fd_p, fd_e, List.drop_zero, List.drop_succ_cons, mkParts_nil, mkParts_cons, mkO_1, mkO_2, mk_agg2, mk_agg3, src_sl, mmO_min, mmO_max, XW_some, XV_some, ln_nil, ln_sl, ln_own, ln_str, cvO_eq, pkO_t, pkO_f, exO_eq, evalO_t, evalO_c, putD_some, putD_none, slot_len, slot_eq, slot_ne, ne_eq, Nat.reduceLT, Nat.reduceEqDiff, not_false_eq_true, not_true_eq_false, reduceCtorEq, XO_nil, RQ_0, RQ_0n, RQ_1, RQ_2, RQ_3, K_norm, K_exit, K_goto, K_ret, K_pan, B_norm, B_exit, B_goto, B_ret, B_pan, S_norm, S_exit, S_ret, S_pan, X_cnd, XB_true, XB_false, bin_add, bin_sub, bin_mul, bin_and, bin_or, bin_shr, bin_shl, bin_quo, bin_rem, Int.reduceLT, Int.reduceEq, bin_eql, bin_neq, bin_lss, bin_leq, bin_gtr, bin_geq, bin_seql, bin_sneq, decide_true, decide_false, eq_self, if_true, if_false, List.getElem?_cons_zero, List.getElem?_cons_succ, hs, ec]
  · simp only [X_skip, X_seq, X_reg, X_block, X_scope, X_exit, X_goto, X_ret, X_label, XO_mv, XO_g, XG_tt, XG_tf, XG_ft, XG_ff, XO_bin, XO_cvI, XO_pick, XO_ext, XO_len, XO_mnmx, XD_mv, XD_g, XGD_tt, XGD_tf, XGD_ft, XGD_ff, XD_bin, XD_cvI, XD_pick, XD_ext, XD_len, XD_mnmx, XD_mksl, XD_iadL, XD_ld, XD_fad, XD_nil, XWD_some, XVD_same, XVD_k, XO_alloc, XO_st, XD_st, XO_box, XO_mkslo, XD_mkslo, XO_mrk, XD_mrk, mr_0, XO_build, st_0_2, st_0_3, st_l_2, st_l_3, ld_l_2, ld_l_3, ld_r_2, ld_r_3, ld_l_at, Nat.zero_add, bd_nil, bd_2, bd_3, XD_build, XO_fld, XD_fld, XO_cvBS, XD_cvBS, bs_sl, bs_nil, XO_cvSB, XD_cvSB, sb_txt, XO_slL, XD_slL, Option.map_some, Option.map_none, XO_mksl, XO_iadL, XO_ld, XO_fad, ld_rptr, fd_r, fd_p, fd_e, List.drop_zero, List.drop_succ_cons, mkParts_nil, mkParts_cons, mkO_1, mkO_2, mk_agg2, mk_agg3, src_sl, mmO_min, mmO_max, XW_some, XV_some, ln_nil, ln_sl, ln_own, ln_str, cvO_eq, pkO_t, pkO_f, exO_eq, evalO_t, evalO_c, putD_some, putD_none, slot_len, slot_eq, slot_ne, ne_eq, Nat.reduceLT, Nat.reduceEqDiff, not_false_eq_true, not_true_eq_false, reduceCtorEq, XO_nil, RQ_0, RQ_0n, RQ_1, RQ_2, RQ_3, K_norm, K_exit, K_goto, K_ret, K_pan, B_norm, B_exit, B_goto, B_ret, B_pan, S_norm, S_exit, S_ret, S_pan, X_cnd, XB_true, XB_false, bin_add, bin_sub, bin_mul, bin_and, bin_or, bin_shr, bin_shl, bin_quo, bin_rem, Int.reduceLT, Int.reduceEq, bin_eql, bin_neq, bin_lss, bin_leq, bin_gtr, bin_geq, bin_seql, bin_sneq, decide_true, decide_false, eq_self, if_true, if_false, List.getElem?_cons_zero, List.getElem?_cons_succ, hs]
  · intro n' out' s' h' v' a1 a2 a3 a4 a5 a6
    simp only [X_skip, X_seq, X_reg, X_block, X_scope, X_exit, X_goto, X_ret, X_label, XO_mv, XO_g, XG_tt, XG_tf, XG_ft, XG_ff, XO_bin, XO_cvI, XO_pick, XO_ext, XO_len, XO_mnmx, XD_mv, XD_g, XGD_tt, XGD_tf, XGD_ft, XGD_ff, XD_bin, XD_cvI, XD_pick, XD_ext, XD_len, XD_mnmx, XD_mksl, XD_iadL, XD_ld, XD_fad, XD_nil, XWD_some, XVD_same, XVD_k, XO_alloc, XO_st, XD_st, XO_box, XO_mkslo, XD_mkslo, XO_mrk, XD_mrk, mr_0, XO_build, st_0_2, st_0_3, st_l_2, st_l_3, ld_l_2, ld_l_3, ld_r_2, ld_r_3, ld_l_at, Nat.zero_add, bd_nil, bd_2, bd_3, XD_build, XO_fld, XD_fld, XO_cvBS, XD_cvBS, bs_sl, bs_nil, XO_cvSB, XD_cvSB, sb_txt, XO_slL, XD_slL, Option.map_some, Option.map_none, XO_mksl, XO_iadL, XO_ld, XO_fad, ld_rptr, fd_r, fd_p, fd_e, List.drop_zero, List.drop_succ_cons, mkParts_nil, mkParts_cons, mkO_1, mkO_2, mk_agg2, mk_agg3, src_sl, mmO_min, mmO_max, XW_some, XV_some, ln_nil, ln_sl, ln_own, ln_str, cvO_eq, pkO_t, pkO_f, exO_eq, evalO_t, evalO_c, putD_some, putD_none, slot_len, slot_eq, slot_ne, ne_eq, Nat.reduceLT, Nat.reduceEqDiff, not_false_eq_true, not_true_eq_false, reduceCtorEq, XO_nil, RQ_0, RQ_0n, RQ_1, RQ_2, RQ_3, K_norm, K_exit, K_goto, K_ret, K_pan, B_norm, B_exit, B_goto, B_ret, B_pan, S_norm, S_exit, S_ret, S_pan, X_cnd, XB_true, XB_false, bin_add, bin_sub, bin_mul, bin_and, bin_or, bin_shr, bin_shl, bin_quo, bin_rem, Int.reduceLT, Int.reduceEq, bin_eql, bin_neq, bin_lss, bin_leq, bin_gtr, bin_geq, bin_seql, bin_sneq, decide_true, decide_false, eq_self, if_true, if_false, List.getElem?_cons_zero, List.getElem?_cons_succ, a1, a2, a4]
    have e1 : IntKind.u8.wrap (n' : Int) = n' := IntWalk.u8_in _ (by omega)
    rw [e1]
    have hl : (out' ++ [u8 n']).length ≤ 20 := by rw [a6]; simp only [List.nil_append]; have := numF_le 8 (clamp n); omega
    simp at hl
    refine XO_app (new := eB [u8 n']) a5 (by simp only [X_skip, X_seq, X_reg, X_block, X_scope, X_exit, X_goto, X_ret, X_label, XO_mv, XO_g, XG_tt, XG_tf, XG_ft, XG_ff, XO_bin, XO_cvI, XO_pick, XO_ext, XO_len, XO_mnmx, XD_mv, XD_g, XGD_tt, XGD_tf, XGD_ft, XGD_ff, XD_bin, XD_cvI, XD_pick, XD_ext, XD_len, XD_mnmx, XD_mksl, XD_iadL, XD_ld, XD_fad, XD_nil, XWD_some, XVD_same, XVD_k, XO_alloc, XO_st, XD_st, XO_box, XO_mkslo, XD_mkslo, XO_mrk, XD_mrk, mr_0, XO_build, st_0_2, st_0_3, st_l_2, st_l_3, ld_l_2, ld_l_3, ld_r_2, ld_r_3, ld_l_at, Nat.zero_add, bd_nil, bd_2, bd_3, XD_build, XO_fld, XD_fld, XO_cvBS, XD_cvBS, bs_sl, bs_nil, XO_cvSB, XD_cvSB, sb_txt, XO_slL, XD_slL, Option.map_some, Option.map_none, XO_mksl, XO_iadL, XO_ld, XO_fad, ld_rptr, fd_r, fd_p, fd_e, List.drop_zero, List.drop_succ_cons, mkParts_nil, mkParts_cons, mkO_1, mkO_2, mk_agg2, mk_agg3, src_sl, mmO_min, mmO_max, XW_some, XV_some, ln_nil, ln_sl, ln_own, ln_str, cvO_eq, pkO_t, pkO_f, exO_eq, evalO_t, evalO_c, putD_some, putD_none, slot_len, slot_eq, slot_ne, ne_eq, Nat.reduceLT, Nat.reduceEqDiff, not_false_eq_true, not_true_eq_false, reduceCtorEq, XO_nil, RQ_0, RQ_0n, RQ_1, RQ_2, RQ_3, K_norm, K_exit, K_goto, K_ret, K_pan, B_norm, B_exit, B_goto, B_ret, B_pan, S_norm, S_exit, S_ret, S_pan, X_cnd, XB_true, XB_false, bin_add, bin_sub, bin_mul, bin_and, bin_or, bin_shr, bin_shl, bin_quo, bin_rem, Int.reduceLT, Int.reduceEq, bin_eql, bin_neq, bin_lss, bin_leq, bin_gtr, bin_geq, bin_seql, bin_sneq, decide_true, decide_false, eq_self, if_true, if_false, List.getElem?_cons_zero, List.getElem?_cons_succ, a1]) ?_ ?_ ?_ (fun v' h' hb' => ?_)
    · simp only [X_skip, X_seq, X_reg, X_block, X_scope, X_exit, X_goto, X_ret, X_label, XO_mv, XO_g, XG_tt, XG_tf, XG_ft, XG_ff, XO_bin, XO_cvI, XO_pick, XO_ext, XO_len, XO_mnmx, XD_mv, XD_g, XGD_tt, XGD_tf, XGD_ft, XGD_ff, XD_bin, XD_cvI, XD_pick, XD_ext, XD_len, XD_mnmx, XD_mksl, XD_iadL, XD_ld, XD_fad, XD_nil, XWD_some, XVD_same, XVD_k, XO_alloc, XO_st, XD_st, XO_box, XO_mkslo, XD_mkslo, XO_mrk, XD_mrk, mr_0, XO_build, st_0_2, st_0_3, st_l_2, st_l_3, ld_l_2, ld_l_3, ld_r_2, ld_r_3, ld_l_at, Nat.zero_add, bd_nil, bd_2, bd_3, XD_build, XO_fld, XD_fld, XO_cvBS, XD_cvBS, bs_sl, bs_nil, XO_cvSB, XD_cvSB, sb_txt, XO_slL, XD_slL, Option.map_some, Option.map_none, XO_mksl, XO_iadL, XO_ld, XO_fad, ld_rptr, fd_r, fd_p, fd_e, List.drop_zero, List.drop_succ_cons, mkParts_nil, mkParts_cons, mkO_1, mkO_2, mk_agg2, mk_agg3, src_sl, mmO_min, mmO_max, XW_some, XV_some, ln_nil, ln_sl, ln_own, ln_str, cvO_eq, pkO_t, pkO_f, exO_eq, evalO_t, evalO_c, putD_some, putD_none, slot_len, slot_eq, slot_ne, ne_eq, Nat.reduceLT, Nat.reduceEqDiff, not_false_eq_true, not_true_eq_false, reduceCtorEq, XO_nil, RQ_0, RQ_0n, RQ_1, RQ_2, RQ_3, K_norm, K_exit, K_goto, K_ret, K_pan, B_norm, B_exit, B_goto, B_ret, B_pan, S_norm, S_exit, S_ret, S_pan, X_cnd, XB_true, XB_false, bin_add, bin_sub, bin_mul, bin_and, bin_or, bin_shr, bin_shl, bin_quo, bin_rem, Int.reduceLT, Int.reduceEq, bin_eql, bin_neq, bin_lss, bin_leq, bin_gtr, bin_geq, bin_seql, bin_sneq, decide_true, decide_false, eq_self, if_true, if_false, List.getElem?_cons_zero, List.getElem?_cons_succ, a1]
      rw [eB_u8 _ (by omega)]
    · simp [eB]; omega
    · simp [eB]; omega
    · simp only [X_skip, X_seq, X_reg, X_block, X_scope, X_exit, X_goto, X_ret, X_label, XO_mv, XO_g, XG_tt, XG_tf, XG_ft, XG_ff, XO_bin, XO_cvI, XO_pick, XO_ext, XO_len, XO_mnmx, XD_mv, XD_g, XGD_tt, XGD_tf, XGD_ft, XGD_ff, XD_bin, XD_cvI, XD_pick, XD_ext, XD_len, XD_mnmx, XD_mksl, XD_iadL, XD_ld, XD_fad, XD_nil, XWD_some, XVD_same, XVD_k, XO_alloc, XO_st, XD_st, XO_box, XO_mkslo, XD_mkslo, XO_mrk, XD_mrk, mr_0, XO_build, st_0_2, st_0_3, st_l_2, st_l_3, ld_l_2, ld_l_3, ld_r_2, ld_r_3, ld_l_at, Nat.zero_add, bd_nil, bd_2, bd_3, XD_build, XO_fld, XD_fld, XO_cvBS, XD_cvBS, bs_sl, bs_nil, XO_cvSB, XD_cvSB, sb_txt, XO_slL, XD_slL, Option.map_some, Option.map_none, XO_mksl, XO_iadL, XO_ld, XO_fad, ld_rptr, fd_r, fd_p, fd_e, List.drop_zero, List.drop_succ_cons, mkParts_nil, mkParts_cons, mkO_1, mkO_2, mk_agg2, mk_agg3, src_sl, mmO_min, mmO_max, XW_some, XV_some, ln_nil, ln_sl, ln_own, ln_str, cvO_eq, pkO_t, pkO_f, exO_eq, evalO_t, evalO_c, putD_some, putD_none, slot_len, slot_eq, slot_ne, ne_eq, Nat.reduceLT, Nat.reduceEqDiff, not_false_eq_true, not_true_eq_false, reduceCtorEq, XO_nil, RQ_0, RQ_0n, RQ_1, RQ_2, RQ_3, K_norm, K_exit, K_goto, K_ret, K_pan, B_norm, B_exit, B_goto, B_ret, B_pan, S_norm, S_exit, S_ret, S_pan, X_cnd, XB_true, XB_false, bin_add, bin_sub, bin_mul, bin_and, bin_or, bin_shr, bin_shl, bin_quo, bin_rem, Int.reduceLT, Int.reduceEq, bin_eql, bin_neq, bin_lss, bin_leq, bin_gtr, bin_geq, bin_seql, bin_sneq, decide_true, decide_false, eq_self, if_true, if_false, List.getElem?_cons_zero, List.getElem?_cons_succ, a1]
      rw [← eB_append, a6] at hb'
      exact hb'

def text (l : List UInt8) : List UInt8 := num (clamp l.length) ++ l

theorem text_f14 (l : List UInt8) (h : Heap) (hl : l.length ≤ 1000000000) : ∃ v h', call F 14 [txt l] h = some (.ret v, h') ∧ Buf h 1 (eB (text l)) v h' := by
  refine call_E (fn := f14) rfl ?_
  simp only [f14]
  generalize hs0 : ([txt l] ++ List.replicate _ VV.undef : List VV) = s
  have hs : s.length = 8 := by rw [← hs0]; rfl
  have h0 : s.getD 0 .undef = txt l := by rw [← hs0]; rfl
  clear hs0
  simp only [X_skip, X_seq, X_reg, X_block, X_scope, X_exit, X_goto, X_ret, X_label, XO_mv, XO_g, XG_tt, XG_tf, XG_ft, XG_ff, XO_bin, XO_cvI, XO_pick, XO_ext, XO_len, XO_mnmx, XD_mv, XD_g, XGD_tt, XGD_tf, XGD_ft, XGD_ff, XD_bin, XD_cvI, XD_pick, XD_ext, XD_len, XD_mnmx, XD_mksl, XD_iadL, XD_ld, XD_fad, XD_nil, XWD_some, XVD_same, XVD_k, XO_alloc, XO_st, XD_st, XO_box, XO_mkslo, XD_mkslo, XO_mrk, XD_mrk, mr_0, XO_build, st_0_2, st_0_3, st_l_2, st_l_3, ld_l_2, ld_l_3, ld_r_2, ld_r_3, ld_l_at, Nat.zero_add, bd_nil, bd_2, bd_3, XD_build, XO_fld, XD_fld, XO_cvBS, XD_cvBS, bs_sl, bs_nil, XO_cvSB, XD_cvSB, sb_txt, XO_slL, XD_slL, Option.map_some, Option.map_none, XO_mksl, XO_iadL, XO_ld, XO_fad, ld_rptr, fd_r, fd_p, fd_e, List.drop_zero, List.drop_succ_cons, mkParts_nil, mkParts_cons, mkO_1, mkO_2, mk_agg2, mk_agg3, src_sl, mmO_min, mmO_max, XW_some, XV_some, ln_nil, ln_sl, ln_own, ln_str, cvO_eq, pkO_t, pkO_f, exO_eq, evalO_t, evalO_c, putD_some, putD_none, slot_len, slot_eq, slot_ne, ne_eq, Nat.reduceLT, Nat.reduceEqDiff, not_false_eq_true, not_true_eq_false, reduceCtorEq, XO_nil, RQ_0, RQ_0n, RQ_1, RQ_2, RQ_3, K_norm, K_exit, K_goto, K_ret, K_pan, B_norm, B_exit, B_goto, B_ret, B_pan, S_norm, S_exit, S_ret, S_pan, X_cnd, XB_true, XB_false, bin_add, bin_sub, bin_mul, bin_and, bin_or, bin_shr, bin_shl, bin_quo, bin_rem, Int.reduceLT, Int.reduceEq, bin_eql, bin_neq, bin_lss, bin_leq, bin_gtr, bin_geq, bin_seql, bin_sneq, decide_true, decide_false, eq_self, if_true, if_false, List.getElem?_cons_zero, List.getElem?_cons_succ, hs, h0]
  obtain ⟨v, h', hc, hb⟩ := num_f12 l.length h
  refine XO_callR (v := v) (h' := h') (by simp only [List.map, X_skip, X_seq, X_reg, X_block, X_scope, X_exit, X_goto, X_ret, X_label, XO_mv, XO_g, XG_tt, XG_tf, XG_ft, XG_ff, XO_bin, XO_cvI, XO_pick, XO_ext, XO_len, XO_mnmx, XD_mv, XD_g, XGD_tt, XGD_tf, XGD_ft, XGD_ff, XD_bin, XD_cvI, XD_pick, XD_ext, XD_len, XD_mnmx, XD_mksl, XD_iadL, XD_ld, XD_fad, XD_nil, XWD_some, XVD_same, XVD_k, XO_alloc, XO_st, XD_st, XO_box, XO_mkslo, XD_mkslo, XO_mrk, XD_mrk, mr_0, XO_build, st_0_2, st_0_3, st_l_2, st_l_3, ld_l_2, ld_l_3, ld_r_2, ld_r_3, ld_l_at, Nat.zero_add, bd_nil, bd_2, bd_3, XD_build, XO_fld, XD_fld, XO_cvBS, XD_cvBS, bs_sl, bs_nil, XO_cvSB, XD_cvSB, sb_txt, XO_slL, XD_slL, Option.map_some, Option.map_none, XO_mksl, XO_iadL, XO_ld, XO_fad, ld_rptr, fd_r, fd_p, fd_e, List.drop_zero, List.drop_succ_cons, mkParts_nil, mkParts_cons, mkO_1, mkO_2, mk_agg2, mk_agg3, src_sl, mmO_min, mmO_max, XW_some, XV_some, ln_nil, ln_sl, ln_own, ln_str, cvO_eq, pkO_t, pkO_f, exO_eq, evalO_t, evalO_c, putD_some, putD_none, slot_len, slot_eq, slot_ne, ne_eq, Nat.reduceLT, Nat.reduceEqDiff, not_false_eq_true, not_true_eq_false, reduceCtorEq, XO_nil, RQ_0, RQ_0n, RQ_1, RQ_2, RQ_3, K_norm, K_exit, K_goto, K_ret, K_pan, B_norm, B_exit, B_goto, B_ret, B_pan, S_norm, S_exit, S_ret, S_pan, X_cnd, XB_true, XB_false, bin_add, bin_sub, bin_mul, bin_and, bin_or, bin_shr, bin_shl, bin_quo, bin_rem, Int.reduceLT, Int.reduceEq, bin_eql, bin_neq, bin_lss, bin_leq, bin_gtr, bin_geq, bin_seql, bin_sneq, decide_true, decide_false, eq_self, if_true, if_false, List.getElem?_cons_zero, List.getElem?_cons_succ, hs]; exact hc) ?_
  simp only [X_skip, X_seq, X_reg, X_block, X_scope, X_exit, X_goto, X_ret, X_label, XO_mv, XO_g, XG_tt, XG_tf, XG_ft, XG_ff, XO_bin, XO_cvI, XO_pick, XO_ext, XO_len, XO_mnmx, XD_mv, XD_g, XGD_tt, XGD_tf, XGD_ft, XGD_ff, XD_bin, XD_cvI, XD_pick, XD_ext, XD_len, XD_mnmx, XD_mksl, XD_iadL, XD_ld, XD_fad, XD_nil, XWD_some, XVD_same, XVD_k, XO_alloc, XO_st, XD_st, XO_box, XO_mkslo, XD_mkslo, XO_mrk, XD_mrk, mr_0, XO_build, st_0_2, st_0_3, st_l_2, st_l_3, ld_l_2, ld_l_3, ld_r_2, ld_r_3, ld_l_at, Nat.zero_add, bd_nil, bd_2, bd_3, XD_build, XO_fld, XD_fld, XO_cvBS, XD_cvBS, bs_sl, bs_nil, XO_cvSB, XD_cvSB, sb_txt, XO_slL, XD_slL, Option.map_some, Option.map_none, XO_mksl, XO_iadL, XO_ld, XO_fad, ld_rptr, fd_r, fd_p, fd_e, List.drop_zero, List.drop_succ_cons, mkParts_nil, mkParts_cons, mkO_1, mkO_2, mk_agg2, mk_agg3, src_sl, mmO_min, mmO_max, XW_some, XV_some, ln_nil, ln_sl, ln_own, ln_str, cvO_eq, pkO_t, pkO_f, exO_eq, evalO_t, evalO_c, putD_some, putD_none, slot_len, slot_eq, slot_ne, ne_eq, Nat.reduceLT, Nat.reduceEqDiff, not_false_eq_true, not_true_eq_false, reduceCtorEq, XO_nil, RQ_0, RQ_0n, RQ_1, RQ_2, RQ_3, K_norm, K_exit, K_goto, K_ret, K_pan, B_norm, B_exit, B_goto, B_ret, B_pan, S_norm, S_exit, S_ret, S_pan, X_cnd, XB_true, XB_false, bin_add, bin_sub, bin_mul, bin_and, bin_or, bin_shr, bin_shl, bin_quo, bin_rem, Int.reduceLT, Int.reduceEq, bin_eql, bin_neq, bin_lss, bin_leq, bin_gtr, bin_geq, bin_seql, bin_sneq, decide_true, decide_false, eq_self, if_true, if_false, List.getElem?_cons_zero, List.getElem?_cons_succ, hs, h0]
  have hn : (num (clamp l.length)).length ≤ 9 := numF_le 8 _
  refine XO_app hb (new := eB l) (by simp only [X_skip, X_seq, X_reg, X_block, X_scope, X_exit, X_goto, X_ret, X_label, XO_mv, XO_g, XG_tt, XG_tf, XG_ft, XG_ff, XO_bin, XO_cvI, XO_pick, XO_ext, XO_len, XO_mnmx, XD_mv, XD_g, XGD_tt, XGD_tf, XGD_ft, XGD_ff, XD_bin, XD_cvI, XD_pick, XD_ext, XD_len, XD_mnmx, XD_mksl, XD_iadL, XD_ld, XD_fad, XD_nil, XWD_some, XVD_same, XVD_k, XO_alloc, XO_st, XD_st, XO_box, XO_mkslo, XD_mkslo, XO_mrk, XD_mrk, mr_0, XO_build, st_0_2, st_0_3, st_l_2, st_l_3, ld_l_2, ld_l_3, ld_r_2, ld_r_3, ld_l_at, Nat.zero_add, bd_nil, bd_2, bd_3, XD_build, XO_fld, XD_fld, XO_cvBS, XD_cvBS, bs_sl, bs_nil, XO_cvSB, XD_cvSB, sb_txt, XO_slL, XD_slL, Option.map_some, Option.map_none, XO_mksl, XO_iadL, XO_ld, XO_fad, ld_rptr, fd_r, fd_p, fd_e, List.drop_zero, List.drop_succ_cons, mkParts_nil, mkParts_cons, mkO_1, mkO_2, mk_agg2, mk_agg3, src_sl, mmO_min, mmO_max, XW_some, XV_some, ln_nil, ln_sl, ln_own, ln_str, cvO_eq, pkO_t, pkO_f, exO_eq, evalO_t, evalO_c, putD_some, putD_none, slot_len, slot_eq, slot_ne, ne_eq, Nat.reduceLT, Nat.reduceEqDiff, not_false_eq_true, not_true_eq_false, reduceCtorEq, XO_nil, RQ_0, RQ_0n, RQ_1, RQ_2, RQ_3, K_norm, K_exit, K_goto, K_ret, K_pan, B_norm, B_exit, B_goto, B_ret, B_pan, S_norm, S_exit, S_ret, S_pan, X_cnd, XB_true, XB_false, bin_add, bin_sub, bin_mul, bin_and, bin_or, bin_shr, bin_shl, bin_quo, bin_rem, Int.reduceLT, Int.reduceEq, bin_eql, bin_neq, bin_lss, bin_leq, bin_gtr, bin_geq, bin_seql, bin_sneq, decide_true, decide_false, eq_self, if_true, if_false, List.getElem?_cons_zero, List.getElem?_cons_succ, hs]) (by simp only [X_skip, X_seq, X_reg, X_block, X_scope, X_exit, X_goto, X_ret, X_label, XO_mv, XO_g, XG_tt, XG_tf, XG_ft, XG_ff, XO_bin, XO_cvI, XO_pick, XO_ext, XO_len, XO_mnmx, XD_mv, XD_g, XGD_tt, XGD_tf, XGD_ft, XGD_ff, XD_bin, XD_cvI, XD_pick, XD_ext, XD_len, XD_mnmx, XD_mksl, XD_iadL, XD_ld, XD_fad, XD_nil, XWD_some, XVD_same, XVD_k, XO_alloc, XO_st, XD_st, XO_box, XO_mkslo, XD_mkslo, XO_mrk, XD_mrk, mr_0, XO_build, st_0_2, st_0_3, st_l_2, st_l_3, ld_l_2, ld_l_3, ld_r_2, ld_r_3, ld_l_at, Nat.zero_add, bd_nil, bd_2, bd_3, XD_build, XO_fld, XD_fld, XO_cvBS, XD_cvBS, bs_sl, bs_nil, XO_cvSB, XD_cvSB, sb_txt, XO_slL, XD_slL, Option.map_some, Option.map_none, XO_mksl, XO_iadL, XO_ld, XO_fad, ld_rptr, fd_r, fd_p, fd_e, List.drop_zero, List.drop_succ_cons, mkParts_nil, mkParts_cons, mkO_1, mkO_2, mk_agg2, mk_agg3, src_sl, mmO_min, mmO_max, XW_some, XV_some, ln_nil, ln_sl, ln_own, ln_str, cvO_eq, pkO_t, pkO_f, exO_eq, evalO_t, evalO_c, putD_some, putD_none, slot_len, slot_eq, slot_ne, ne_eq, Nat.reduceLT, Nat.reduceEqDiff, not_false_eq_true, not_true_eq_false, reduceCtorEq, XO_nil, RQ_0, RQ_0n, RQ_1, RQ_2, RQ_3, K_norm, K_exit, K_goto, K_ret, K_pan, B_norm, B_exit, B_goto, B_ret, B_pan, S_norm, S_exit, S_ret, S_pan, X_cnd, XB_true, XB_false, bin_add, bin_sub, bin_mul, bin_and, bin_or, bin_shr, bin_shl, bin_quo, bin_rem, Int.reduceLT, Int.reduceEq, bin_eql, bin_neq, bin_lss, bin_leq, bin_gtr, bin_geq, bin_seql, bin_sneq, decide_true, decide_false, eq_self, if_true, if_false, List.getElem?_cons_zero, List.getElem?_cons_succ, hs]; exact src_txt) (by simp only [eB_len]; omega) (by simp only [eB_len]; omega) (fun v' h' hb' => ?_)
  simp only [X_skip, X_seq, X_reg, X_block, X_scope, X_exit, X_goto, X_ret, X_label, XO_mv, XO_g, XG_tt, XG_tf, XG_ft, XG_ff, XO_bin, XO_cvI, XO_pick, XO_ext, XO_len, XO_mnmx, XD_mv, XD_g, XGD_tt, XGD_tf, XGD_ft, XGD_ff, XD_bin, XD_cvI, XD_pick, XD_ext, XD_len, XD_mnmx, XD_mksl, XD_iadL, XD_ld, XD_fad, XD_nil, XWD_some, XVD_same, XVD_k, XO_alloc, XO_st, XD_st, XO_box, XO_mkslo, XD_mkslo, XO_mrk, XD_mrk, mr_0, XO_build, st_0_2, st_0_3, st_l_2, st_l_3, ld_l_2, ld_l_3, ld_r_2, ld_r_3, ld_l_at, Nat.zero_add, bd_nil, bd_2, bd_3, XD_build, XO_fld, XD_fld, XO_cvBS, XD_cvBS, bs_sl, bs_nil, XO_cvSB, XD_cvSB, sb_txt, XO_slL, XD_slL, Option.map_some, Option.map_none, XO_mksl, XO_iadL, XO_ld, XO_fad, ld_rptr, fd_r, fd_p, fd_e, List.drop_zero, List.drop_succ_cons, mkParts_nil, mkParts_cons, mkO_1, mkO_2, mk_agg2, mk_agg3, src_sl, mmO_min, mmO_max, XW_some, XV_some, ln_nil, ln_sl, ln_own, ln_str, cvO_eq, pkO_t, pkO_f, exO_eq, evalO_t, evalO_c, putD_some, putD_none, slot_len, slot_eq, slot_ne, ne_eq, Nat.reduceLT, Nat.reduceEqDiff, not_false_eq_true, not_true_eq_false, reduceCtorEq, XO_nil, RQ_0, RQ_0n, RQ_1, RQ_2, RQ_3, K_norm, K_exit, K_goto, K_ret, K_pan, B_norm, B_exit, B_goto, B_ret, B_pan, S_norm, S_exit, S_ret, S_pan, X_cnd, XB_true, XB_false, bin_add, bin_sub, bin_mul, bin_and, bin_or, bin_shr, bin_shl, bin_quo, bin_rem, Int.reduceLT, Int.reduceEq, bin_eql, bin_neq, bin_lss, bin_leq, bin_gtr, bin_geq, bin_seql, bin_sneq, decide_true, decide_false, eq_self, if_true, if_false, List.getElem?_cons_zero, List.getElem?_cons_succ, hs]
  rw [← eB_append] at hb'
  exact hb'

/-- A number, from its bytes. -/
def getN : Nat → List UInt8 → Nat → Nat → Nat → Nat × Nat × Nat
  | 0, _, _, _, _ => (0, 0, 11)
  | _ + 1, [], _, _, _ => (0, 0, 10)
  | k + 1, c :: r, at_, i, n =>
    let m := n + c.toNat % 128 * 128 ^ i
    if c.toNat < 128 then (if (c.toNat = 0 ∧ 0 < i) ∨ 9007199254740992 < m then (0, 0, 11) else (m, at_ + i + 1, 0)) else getN k r at_ (i + 1) m
def getNum (b : List UInt8) (at_ : Int) : Nat × Nat × Nat := if at_ < 0 ∨ (b.length : Int) < at_ then (0, 0, 10) else getN 8 (b.drop at_.toNat) at_.toNat 0 0

theorem u8_and128 (m : Nat) (h : m < 256) : bits .and .u8 (m : Int) 128 = if m < 128 then 0 else 128 := by
  have : ∀ m : Fin 256, bits .and .u8 ((m.val : Nat) : Int) 128 = if m.val < 128 then 0 else 128 := by decide +kernel
  exact this ⟨m, h⟩
theorem u8_and127' (m : Nat) (h : m < 256) : bits .and .u8 (m : Int) 127 = ((m % 128 : Nat) : Int) := by
  have : ∀ m : Fin 256, bits .and .u8 ((m.val : Nat) : Int) 127 = ((m.val % 128 : Nat) : Int) := by decide +kernel
  exact this ⟨m, h⟩

theorem pow_le (i : Nat) (h : i ≤ 7) : 128 ^ (i + 1) ≤ 72057594037927936 ∧ 0 < 128 ^ i := by
  have : ∀ i : Fin 8, 128 ^ (i.val + 1) ≤ 72057594037927936 ∧ 0 < 128 ^ i.val := by decide +kernel
  exact this ⟨i, by omega⟩
theorem shl_i64 (i c : Nat) (hi : i ≤ 7) (hc : c < 128) : IntKind.i64.wrap ((c : Int) * 2 ^ min (7 * (i : Int)).toNat IntKind.i64.bits) = ((c * 128 ^ i : Nat) : Int) := by
  have h1 : min (7 * (i : Int)).toNat IntKind.i64.bits = 7 * i := by
    have : IntKind.i64.bits = 64 := rfl
    omega
  have h2 : (2 : Int) ^ (7 * i) = ((128 ^ i : Nat) : Int) := by
    rw [Int.pow_mul]; simp
  rw [h1, h2, ← Int.natCast_mul]
  have h3 : c * 128 ^ i ≤ 127 * 128 ^ i := Nat.mul_le_mul_right _ (by omega)
  have h4 := (pow_le i hi).1
  rw [Nat.pow_succ] at h4
  exact IntWalk.i64_in _ (by omega)
theorem or_i64 (i n c : Nat) (hi : i ≤ 7) (hn : n < 128 ^ i) (hc : c < 128) : bits .or .i64 (n : Int) ((c * 128 ^ i : Nat) : Int) = ((n + c * 128 ^ i : Nat) : Int) := by
  have h3 : c * 128 ^ i ≤ 127 * 128 ^ i := Nat.mul_le_mul_right _ (by omega)
  have h4 := (pow_le i hi).1
  rw [Nat.pow_succ] at h4
  have h63 : (2 : Nat) ^ 63 = 9223372036854775808 := by decide
  rw [(bits_nat .i64 63 (by decide) (fun n a b => IntWalk.i64_in _ (by have : (2 : Int) ^ 63 = 9223372036854775808 := by decide
                                                                       omega)) n (c * 128 ^ i) (by omega) (by omega)).2]
  congr 1
  have h5 : 128 ^ i = 2 ^ (7 * i) := by rw [Nat.pow_mul]
  rw [h5] at hn ⊢
  rw [Nat.mul_comm c, Nat.or_comm, ← Nat.two_pow_add_eq_or_of_lt hn c]
  omega

/-- How the loop of GetNum ends. -/
def GN (x : Nat × Nat × Nat) (o : Out) (s : List VV) : Prop :=
  (x = (0, 0, 11) ∧ (o = .exit 0 ∨ o = .goto 1)) ∨ (x = (0, 0, 10) ∧ o = .goto 0) ∨
  (∃ m j, x = (m, j, 0) ∧ o = .ret ∧ s.getD 4 .undef = vi .i64 m ∧ s.getD 5 .undef = vi .i64 j ∧ s.getD 6 .undef = vi .u16 0)

theorem f13_loop (b : List UInt8) (v : VV) (hv : SlV 1 (eB b) v) (at_ : Nat) (h : Heap) (Q : Pst) (hat : at_ ≤ b.length) (hb : b.length ≤ 1000000000) : ∀ (k i n : Nat) (s : List VV), i + k = 8 → n < 128 ^ i → s.length = 60 →
    s.getD 0 .undef = v → s.getD 1 .undef = vi .i64 at_ → s.getD 7 .undef = vi .i64 n → s.getD 8 .undef = vi .i64 i → at_ + i ≤ b.length →
    (∀ o s', s'.length = 60 → GN (getN k (b.drop (at_ + i)) at_ i n) o s' → Q o ⟨s', h⟩) →
    X F (.loop f13_0) ⟨s, h⟩ Q := by
  intro k
  induction k with
  | zero =>
    intro i n s hi hn hs h0 h1 h7 h8 hai hQ
    have hlt : ¬ (i : Int) < 8 := by omega
    rw [X_loop, X_eq f13_0.eq_1]
    simp only [X_skip, X_seq, X_reg, X_block, X_scope, X_exit, X_goto, X_ret, X_label, XO_mv, XO_g, XG_tt, XG_tf, XG_ft, XG_ff, XO_bin, XO_cvI, XO_pick, XO_ext, XO_len, XO_mnmx, XD_mv, XD_g, XGD_tt, XGD_tf, XGD_ft, XGD_ff, XD_bin, XD_cvI, XD_pick, XD_ext, XD_len, XD_mnmx, XD_mksl, XD_iadL, XD_ld, XD_fad, XD_nil, XWD_some, XVD_same, XVD_k, XO_alloc, XO_st, XD_st, XO_box, XO_mkslo, XD_mkslo, XO_mrk, XD_mrk, mr_0, XO_build, st_0_2, st_0_3, st_l_2, st_l_3, ld_l_2, ld_l_3, ld_r_2, ld_r_3, ld_l_at, Nat.zero_add, bd_nil, bd_2, bd_3, XD_build, XO_fld, XD_fld, XO_cvBS, XD_cvBS, bs_sl, bs_nil, XO_cvSB, XD_cvSB, sb_txt, XO_slL, XD_slL, Option.map_some, Option.map_none, XO_mksl, XO_iadL, XO_ld, XO_fad, ld_rptr, fd_r, fd_p, fd_e, List.drop_zero, List.drop_succ_cons, mkParts_nil, mkParts_cons, mkO_1, mkO_2, mk_agg2, mk_agg3, src_sl, mmO_min, mmO_max, XW_some, XV_some, ln_nil, ln_sl, ln_own, ln_str, cvO_eq, pkO_t, pkO_f, exO_eq, evalO_t, evalO_c, putD_some, putD_none, slot_len, slot_eq, slot_ne, ne_eq, Nat.reduceLT, Nat.reduceEqDiff, not_false_eq_true, not_true_eq_false, reduceCtorEq, XO_nil, RQ_0, RQ_0n, RQ_1, RQ_2, RQ_3, K_norm, K_exit, K_goto, K_ret, K_pan, B_norm, B_exit, B_goto, B_ret, B_pan, S_norm, S_exit, S_ret, S_pan, X_cnd, XB_true, XB_false, bin_add, bin_sub, bin_mul, bin_and, bin_or, bin_shr, bin_shl, bin_quo, bin_rem, Int.reduceLT, Int.reduceEq, bin_eql, bin_neq, bin_lss, bin_leq, bin_gtr, bin_geq, bin_seql, bin_sneq, decide_true, decide_false, eq_self, if_true, if_false, List.getElem?_cons_zero, List.getElem?_cons_succ, hs, h8, hlt]
    refine hQ _ _ (by simp only [slot_len, hs]) (.inl ⟨?_, .inl rfl⟩)
    simp only [getN]
  | succ k ih =>
    intro i n s hi hn hs h0 h1 h7 h8 hai hQ
    have hlt : (i : Int) < 8 := by omega
    rw [X_loop, X_eq f13_0.eq_1]
    have ea : IntKind.i64.wrap ((at_ : Int) + (i : Int)) = ((at_ + i : Nat) : Int) := by rw [IntWalk.i64_in _ (by omega)]; omega
    simp only [X_skip, X_seq, X_reg, X_block, X_scope, X_exit, X_goto, X_ret, X_label, XO_mv, XO_g, XG_tt, XG_tf, XG_ft, XG_ff, XO_bin, XO_cvI, XO_pick, XO_ext, XO_len, XO_mnmx, XD_mv, XD_g, XGD_tt, XGD_tf, XGD_ft, XGD_ff, XD_bin, XD_cvI, XD_pick, XD_ext, XD_len, XD_mnmx, XD_mksl, XD_iadL, XD_ld, XD_fad, XD_nil, XWD_some, XVD_same, XVD_k, XO_alloc, XO_st, XD_st, XO_box, XO_mkslo, XD_mkslo, XO_mrk, XD_mrk, mr_0, XO_build, st_0_2, st_0_3, st_l_2, st_l_3, ld_l_2, ld_l_3, ld_r_2, ld_r_3, ld_l_at, Nat.zero_add, bd_nil, bd_2, bd_3, XD_build, XO_fld, XD_fld, XO_cvBS, XD_cvBS, bs_sl, bs_nil, XO_cvSB, XD_cvSB, sb_txt, XO_slL, XD_slL, Option.map_some, Option.map_none, XO_mksl, XO_iadL, XO_ld, XO_fad, ld_rptr, fd_r, fd_p, fd_e, List.drop_zero, List.drop_succ_cons, mkParts_nil, mkParts_cons, mkO_1, mkO_2, mk_agg2, mk_agg3, src_sl, mmO_min, mmO_max, XW_some, XV_some, ln_nil, ln_sl, ln_own, ln_str, cvO_eq, pkO_t, pkO_f, exO_eq, evalO_t, evalO_c, putD_some, putD_none, slot_len, slot_eq, slot_ne, ne_eq, Nat.reduceLT, Nat.reduceEqDiff, not_false_eq_true, not_true_eq_false, reduceCtorEq, XO_nil, RQ_0, RQ_0n, RQ_1, RQ_2, RQ_3, K_norm, K_exit, K_goto, K_ret, K_pan, B_norm, B_exit, B_goto, B_ret, B_pan, S_norm, S_exit, S_ret, S_pan, X_cnd, XB_true, XB_false, bin_add, bin_sub, bin_mul, bin_and, bin_or, bin_shr, bin_shl, bin_quo, bin_rem, Int.reduceLT, Int.reduceEq, bin_eql, bin_neq, bin_lss, bin_leq, bin_gtr, bin_geq, bin_seql, bin_sneq, decide_true, decide_false, eq_self, if_true, if_false, List.getElem?_cons_zero, List.getElem?_cons_succ, hs, h0, h1, h7, h8, hlt, ea, eB_len, hv.ln]
    refine XB_dec (fun hc => ?_) (fun hc => ?_)
    · simp only [X_skip, X_seq, X_reg, X_block, X_scope, X_exit, X_goto, X_ret, X_label, XO_mv, XO_g, XG_tt, XG_tf, XG_ft, XG_ff, XO_bin, XO_cvI, XO_pick, XO_ext, XO_len, XO_mnmx, XD_mv, XD_g, XGD_tt, XGD_tf, XGD_ft, XGD_ff, XD_bin, XD_cvI, XD_pick, XD_ext, XD_len, XD_mnmx, XD_mksl, XD_iadL, XD_ld, XD_fad, XD_nil, XWD_some, XVD_same, XVD_k, XO_alloc, XO_st, XD_st, XO_box, XO_mkslo, XD_mkslo, XO_mrk, XD_mrk, mr_0, XO_build, st_0_2, st_0_3, st_l_2, st_l_3, ld_l_2, ld_l_3, ld_r_2, ld_r_3, ld_l_at, Nat.zero_add, bd_nil, bd_2, bd_3, XD_build, XO_fld, XD_fld, XO_cvBS, XD_cvBS, bs_sl, bs_nil, XO_cvSB, XD_cvSB, sb_txt, XO_slL, XD_slL, Option.map_some, Option.map_none, XO_mksl, XO_iadL, XO_ld, XO_fad, ld_rptr, fd_r, fd_p, fd_e, List.drop_zero, List.drop_succ_cons, mkParts_nil, mkParts_cons, mkO_1, mkO_2, mk_agg2, mk_agg3, src_sl, mmO_min, mmO_max, XW_some, XV_some, ln_nil, ln_sl, ln_own, ln_str, cvO_eq, pkO_t, pkO_f, exO_eq, evalO_t, evalO_c, putD_some, putD_none, slot_len, slot_eq, slot_ne, ne_eq, Nat.reduceLT, Nat.reduceEqDiff, not_false_eq_true, not_true_eq_false, reduceCtorEq, XO_nil, RQ_0, RQ_0n, RQ_1, RQ_2, RQ_3, K_norm, K_exit, K_goto, K_ret, K_pan, B_norm, B_exit, B_goto, B_ret, B_pan, S_norm, S_exit, S_ret, S_pan, X_cnd, XB_true, XB_false, bin_add, bin_sub, bin_mul, bin_and, bin_or, bin_shr, bin_shl, bin_quo, bin_rem, Int.reduceLT, Int.reduceEq, bin_eql, bin_neq, bin_lss, bin_leq, bin_gtr, bin_geq, bin_seql, bin_sneq, decide_true, decide_false, eq_self, if_true, if_false, List.getElem?_cons_zero, List.getElem?_cons_succ]
      refine hQ _ _ (by simp only [slot_len, hs]) (.inr (.inl ⟨?_, rfl⟩))
      rw [List.drop_eq_nil_of_le (by omega)]
      simp only [getN]
    · have hlt2 : at_ + i < b.length := by omega
      obtain ⟨c, hget⟩ : ∃ c, b[at_ + i]? = some c := ⟨_, List.getElem?_eq_getElem hlt2⟩
      have hd : b.drop (at_ + i) = c :: b.drop (at_ + i + 1) := by
        rw [List.drop_eq_getElem_cons hlt2]
        rw [List.getElem?_eq_getElem hlt2] at hget
        cases hget; rfl
      have hc256 : c.toNat < 256 := c.toNat_lt
      simp only [X_skip, X_seq, X_reg, X_block, X_scope, X_exit, X_goto, X_ret, X_label, XO_mv, XO_g, XG_tt, XG_tf, XG_ft, XG_ff, XO_bin, XO_cvI, XO_pick, XO_ext, XO_len, XO_mnmx, XD_mv, XD_g, XGD_tt, XGD_tf, XGD_ft, XGD_ff, XD_bin, XD_cvI, XD_pick, XD_ext, XD_len, XD_mnmx, XD_mksl, XD_iadL, XD_ld, XD_fad, XD_nil, XWD_some, XVD_same, XVD_k, XO_alloc, XO_st, XD_st, XO_box, XO_mkslo, XD_mkslo, XO_mrk, XD_mrk, mr_0, XO_build, st_0_2, st_0_3, st_l_2, st_l_3, ld_l_2, ld_l_3, ld_r_2, ld_r_3, ld_l_at, Nat.zero_add, bd_nil, bd_2, bd_3, XD_build, XO_fld, XD_fld, XO_cvBS, XD_cvBS, bs_sl, bs_nil, XO_cvSB, XD_cvSB, sb_txt, XO_slL, XD_slL, Option.map_some, Option.map_none, XO_mksl, XO_iadL, XO_ld, XO_fad, ld_rptr, fd_r, fd_p, fd_e, List.drop_zero, List.drop_succ_cons, mkParts_nil, mkParts_cons, mkO_1, mkO_2, mk_agg2, mk_agg3, src_sl, mmO_min, mmO_max, XW_some, XV_some, ln_nil, ln_sl, ln_own, ln_str, cvO_eq, pkO_t, pkO_f, exO_eq, evalO_t, evalO_c, putD_some, putD_none, slot_len, slot_eq, slot_ne, ne_eq, Nat.reduceLT, Nat.reduceEqDiff, not_false_eq_true, not_true_eq_false, reduceCtorEq, XO_nil, RQ_0, RQ_0n, RQ_1, RQ_2, RQ_3, K_norm, K_exit, K_goto, K_ret, K_pan, B_norm, B_exit, B_goto, B_ret, B_pan, S_norm, S_exit, S_ret, S_pan, X_cnd, XB_true, XB_false, bin_add, bin_sub, bin_mul, bin_and, bin_or, bin_shr, bin_shl, bin_quo, bin_rem, Int.reduceLT, Int.reduceEq, bin_eql, bin_neq, bin_lss, bin_leq, bin_gtr, bin_geq, bin_seql, bin_sneq, decide_true, decide_false, eq_self, if_true, if_false, List.getElem?_cons_zero, List.getElem?_cons_succ, hs, h0, h1, h7, h8, ea]
      rw [hv.ia (e := byteCell c) (by omega) (by rw [show ((at_ + i : Nat) : Int).toNat = at_ + i from rfl]; exact eB_get hget)]
      simp only [X_skip, X_seq, X_reg, X_block, X_scope, X_exit, X_goto, X_ret, X_label, XO_mv, XO_g, XG_tt, XG_tf, XG_ft, XG_ff, XO_bin, XO_cvI, XO_pick, XO_ext, XO_len, XO_mnmx, XD_mv, XD_g, XGD_tt, XGD_tf, XGD_ft, XGD_ff, XD_bin, XD_cvI, XD_pick, XD_ext, XD_len, XD_mnmx, XD_mksl, XD_iadL, XD_ld, XD_fad, XD_nil, XWD_some, XVD_same, XVD_k, XO_alloc, XO_st, XD_st, XO_box, XO_mkslo, XD_mkslo, XO_mrk, XD_mrk, mr_0, XO_build, st_0_2, st_0_3, st_l_2, st_l_3, ld_l_2, ld_l_3, ld_r_2, ld_r_3, ld_l_at, Nat.zero_add, bd_nil, bd_2, bd_3, XD_build, XO_fld, XD_fld, XO_cvBS, XD_cvBS, bs_sl, bs_nil, XO_cvSB, XD_cvSB, sb_txt, XO_slL, XD_slL, Option.map_some, Option.map_none, XO_mksl, XO_iadL, XO_ld, XO_fad, ld_rptr, fd_r, fd_p, fd_e, List.drop_zero, List.drop_succ_cons, mkParts_nil, mkParts_cons, mkO_1, mkO_2, mk_agg2, mk_agg3, src_sl, mmO_min, mmO_max, XW_some, XV_some, ln_nil, ln_sl, ln_own, ln_str, cvO_eq, pkO_t, pkO_f, exO_eq, evalO_t, evalO_c, putD_some, putD_none, slot_len, slot_eq, slot_ne, ne_eq, Nat.reduceLT, Nat.reduceEqDiff, not_false_eq_true, not_true_eq_false, reduceCtorEq, XO_nil, RQ_0, RQ_0n, RQ_1, RQ_2, RQ_3, K_norm, K_exit, K_goto, K_ret, K_pan, B_norm, B_exit, B_goto, B_ret, B_pan, S_norm, S_exit, S_ret, S_pan, X_cnd, XB_true, XB_false, bin_add, bin_sub, bin_mul, bin_and, bin_or, bin_shr, bin_shl, bin_quo, bin_rem, Int.reduceLT, Int.reduceEq, bin_eql, bin_neq, bin_lss, bin_leq, bin_gtr, bin_geq, bin_seql, bin_sneq, decide_true, decide_false, eq_self, if_true, if_false, List.getElem?_cons_zero, List.getElem?_cons_succ, hs, h0, h1, h7, h8, byteCell, u8_and127' c.toNat hc256, u8_and128 c.toNat hc256]
      have e1 : IntKind.i64.wrap ((c.toNat % 128 : Nat) : Int) = ((c.toNat % 128 : Nat) : Int) := IntWalk.i64_in _ (by omega)
      have e2 : IntKind.i64.wrap (7 * (i : Int)) = 7 * (i : Int) := IntWalk.i64_in _ (by omega)
      have e3 : ¬ (7 * (i : Int)) < 0 := by omega
      simp only [X_skip, X_seq, X_reg, X_block, X_scope, X_exit, X_goto, X_ret, X_label, XO_mv, XO_g, XG_tt, XG_tf, XG_ft, XG_ff, XO_bin, XO_cvI, XO_pick, XO_ext, XO_len, XO_mnmx, XD_mv, XD_g, XGD_tt, XGD_tf, XGD_ft, XGD_ff, XD_bin, XD_cvI, XD_pick, XD_ext, XD_len, XD_mnmx, XD_mksl, XD_iadL, XD_ld, XD_fad, XD_nil, XWD_some, XVD_same, XVD_k, XO_alloc, XO_st, XD_st, XO_box, XO_mkslo, XD_mkslo, XO_mrk, XD_mrk, mr_0, XO_build, st_0_2, st_0_3, st_l_2, st_l_3, ld_l_2, ld_l_3, ld_r_2, ld_r_3, ld_l_at, Nat.zero_add, bd_nil, bd_2, bd_3, XD_build, XO_fld, XD_fld, XO_cvBS, XD_cvBS, bs_sl, bs_nil, XO_cvSB, XD_cvSB, sb_txt, XO_slL, XD_slL, Option.map_some, Option.map_none, XO_mksl, XO_iadL, XO_ld, XO_fad, ld_rptr, fd_r, fd_p, fd_e, List.drop_zero, List.drop_succ_cons, mkParts_nil, mkParts_cons, mkO_1, mkO_2, mk_agg2, mk_agg3, src_sl, mmO_min, mmO_max, XW_some, XV_some, ln_nil, ln_sl, ln_own, ln_str, cvO_eq, pkO_t, pkO_f, exO_eq, evalO_t, evalO_c, putD_some, putD_none, slot_len, slot_eq, slot_ne, ne_eq, Nat.reduceLT, Nat.reduceEqDiff, not_false_eq_true, not_true_eq_false, reduceCtorEq, XO_nil, RQ_0, RQ_0n, RQ_1, RQ_2, RQ_3, K_norm, K_exit, K_goto, K_ret, K_pan, B_norm, B_exit, B_goto, B_ret, B_pan, S_norm, S_exit, S_ret, S_pan, X_cnd, XB_true, XB_false, bin_add, bin_sub, bin_mul, bin_and, bin_or, bin_shr, bin_shl, bin_quo, bin_rem, Int.reduceLT, Int.reduceEq, bin_eql, bin_neq, bin_lss, bin_leq, bin_gtr, bin_geq, bin_seql, bin_sneq, decide_true, decide_false, eq_self, if_true, if_false, List.getElem?_cons_zero, List.getElem?_cons_succ, hs, h0, h1, h7, h8, e1, e2, e3, shl_i64 i _ (by omega) (Nat.mod_lt _ (by decide : 128 > 0)), or_i64 i n _ (by omega) hn (Nat.mod_lt _ (by decide : 128 > 0))]
      have hm : n + c.toNat % 128 * 128 ^ i < 128 ^ (i + 1) := by
        have : c.toNat % 128 * 128 ^ i ≤ 127 * 128 ^ i := Nat.mul_le_mul_right _ (by omega)
        rw [Nat.pow_succ]; omega
      have hp := (pow_le i (by omega)).1
      rw [hd] at hQ
      simp only [getN] at hQ
      generalize n + c.toNat % 128 * 128 ^ i = m at hm hQ ⊢
      by_cases hcm : c.toNat < 128
      · simp only [hcm, if_true] at hQ
        have e4 : bits .and .u8 (c.toNat : Int) 128 = 0 := by rw [u8_and128 _ hc256, if_pos hcm]
        have e5 : IntKind.i64.wrap (((at_ + i : Nat) : Int) + 1) = ((at_ + i + 1 : Nat) : Int) := by rw [IntWalk.i64_in _ (by omega)]; omega
        have ret : ∀ s', s'.length = 60 → ¬ ((c.toNat = 0 ∧ 0 < i) ∨ 9007199254740992 < m) → s'.getD 4 .undef = vi .i64 m → s'.getD 5 .undef = vi .i64 ((at_ + i + 1 : Nat) : Int) → s'.getD 6 .undef = vi .u16 0 → Q .ret ⟨s', h⟩ := by
          intro s' a1 a2 a3 a4 a5
          refine hQ _ _ a1 ?_
          rw [if_neg a2]
          exact .inr (.inr ⟨_, _, rfl, rfl, a3, a4, a5⟩)
        have bad : ∀ s', s'.length = 60 → ((c.toNat = 0 ∧ 0 < i) ∨ 9007199254740992 < m) → Q (.goto 1) ⟨s', h⟩ := by
          intro s' a1 a2
          refine hQ _ _ a1 ?_
          rw [if_pos a2]
          exact .inl ⟨rfl, .inr rfl⟩
        clear hQ ih
        by_cases hM : 9007199254740992 < (m : Int)
        · by_cases hz : (c.toNat : Int) = 0
          · by_cases hi0 : (0 : Int) < i
            · simp only [X_skip, X_seq, X_reg, X_block, X_scope, X_exit, X_goto, X_ret, X_label, XO_mv, XO_g, XG_tt, XG_tf, XG_ft, XG_ff, XO_bin, XO_cvI, XO_pick, XO_ext, XO_len, XO_mnmx, XD_mv, XD_g, XGD_tt, XGD_tf, XGD_ft, XGD_ff, XD_bin, XD_cvI, XD_pick, XD_ext, XD_len, XD_mnmx, XD_mksl, XD_iadL, XD_ld, XD_fad, XD_nil, XWD_some, XVD_same, XVD_k, XO_alloc, XO_st, XD_st, XO_box, XO_mkslo, XD_mkslo, XO_mrk, XD_mrk, mr_0, XO_build, st_0_2, st_0_3, st_l_2, st_l_3, ld_l_2, ld_l_3, ld_r_2, ld_r_3, ld_l_at, Nat.zero_add, bd_nil, bd_2, bd_3, XD_build, XO_fld, XD_fld, XO_cvBS, XD_cvBS, bs_sl, bs_nil, XO_cvSB, XD_cvSB, sb_txt, XO_slL, XD_slL, Option.map_some, Option.map_none, XO_mksl, XO_iadL, XO_ld, XO_fad, ld_rptr, fd_r, fd_p, fd_e, List.drop_zero, List.drop_succ_cons, mkParts_nil, mkParts_cons, mkO_1, mkO_2, mk_agg2, mk_agg3, src_sl, mmO_min, mmO_max, XW_some, XV_some, ln_nil, ln_sl, ln_own, ln_str, cvO_eq, pkO_t, pkO_f, exO_eq, evalO_t, evalO_c, putD_some, putD_none, slot_len, slot_eq, slot_ne, ne_eq, Nat.reduceLT, Nat.reduceEqDiff, not_false_eq_true, not_true_eq_false, reduceCtorEq, XO_nil, RQ_0, RQ_0n, RQ_1, RQ_2, RQ_3, K_norm, K_exit, K_goto, K_ret, K_pan, B_norm, B_exit, B_goto, B_ret, B_pan, S_norm, S_exit, S_ret, S_pan, X_cnd, XB_true, XB_false, bin_add, bin_sub, bin_mul, bin_and, bin_or, bin_shr, bin_shl, bin_quo, bin_rem, Int.reduceLT, Int.reduceEq, bin_eql, bin_neq, bin_lss, bin_leq, bin_gtr, bin_geq, bin_seql, bin_sneq, decide_true, decide_false, eq_self, if_true, if_false, List.getElem?_cons_zero, List.getElem?_cons_succ, hs, h1, h8, e4, e5, ea, eq_true hz, hi0, hM]
              exact bad _ (by simp only [slot_len, hs]) (by omega)
            · simp only [X_skip, X_seq, X_reg, X_block, X_scope, X_exit, X_goto, X_ret, X_label, XO_mv, XO_g, XG_tt, XG_tf, XG_ft, XG_ff, XO_bin, XO_cvI, XO_pick, XO_ext, XO_len, XO_mnmx, XD_mv, XD_g, XGD_tt, XGD_tf, XGD_ft, XGD_ff, XD_bin, XD_cvI, XD_pick, XD_ext, XD_len, XD_mnmx, XD_mksl, XD_iadL, XD_ld, XD_fad, XD_nil, XWD_some, XVD_same, XVD_k, XO_alloc, XO_st, XD_st, XO_box, XO_mkslo, XD_mkslo, XO_mrk, XD_mrk, mr_0, XO_build, st_0_2, st_0_3, st_l_2, st_l_3, ld_l_2, ld_l_3, ld_r_2, ld_r_3, ld_l_at, Nat.zero_add, bd_nil, bd_2, bd_3, XD_build, XO_fld, XD_fld, XO_cvBS, XD_cvBS, bs_sl, bs_nil, XO_cvSB, XD_cvSB, sb_txt, XO_slL, XD_slL, Option.map_some, Option.map_none, XO_mksl, XO_iadL, XO_ld, XO_fad, ld_rptr, fd_r, fd_p, fd_e, List.drop_zero, List.drop_succ_cons, mkParts_nil, mkParts_cons, mkO_1, mkO_2, mk_agg2, mk_agg3, src_sl, mmO_min, mmO_max, XW_some, XV_some, ln_nil, ln_sl, ln_own, ln_str, cvO_eq, pkO_t, pkO_f, exO_eq, evalO_t, evalO_c, putD_some, putD_none, slot_len, slot_eq, slot_ne, ne_eq, Nat.reduceLT, Nat.reduceEqDiff, not_false_eq_true, not_true_eq_false, reduceCtorEq, XO_nil, RQ_0, RQ_0n, RQ_1, RQ_2, RQ_3, K_norm, K_exit, K_goto, K_ret, K_pan, B_norm, B_exit, B_goto, B_ret, B_pan, S_norm, S_exit, S_ret, S_pan, X_cnd, XB_true, XB_false, bin_add, bin_sub, bin_mul, bin_and, bin_or, bin_shr, bin_shl, bin_quo, bin_rem, Int.reduceLT, Int.reduceEq, bin_eql, bin_neq, bin_lss, bin_leq, bin_gtr, bin_geq, bin_seql, bin_sneq, decide_true, decide_false, eq_self, if_true, if_false, List.getElem?_cons_zero, List.getElem?_cons_succ, hs, h1, h8, e4, e5, ea, eq_true hz, hi0, hM]
              exact bad _ (by simp only [slot_len, hs]) (by omega)
          · simp only [X_skip, X_seq, X_reg, X_block, X_scope, X_exit, X_goto, X_ret, X_label, XO_mv, XO_g, XG_tt, XG_tf, XG_ft, XG_ff, XO_bin, XO_cvI, XO_pick, XO_ext, XO_len, XO_mnmx, XD_mv, XD_g, XGD_tt, XGD_tf, XGD_ft, XGD_ff, XD_bin, XD_cvI, XD_pick, XD_ext, XD_len, XD_mnmx, XD_mksl, XD_iadL, XD_ld, XD_fad, XD_nil, XWD_some, XVD_same, XVD_k, XO_alloc, XO_st, XD_st, XO_box, XO_mkslo, XD_mkslo, XO_mrk, XD_mrk, mr_0, XO_build, st_0_2, st_0_3, st_l_2, st_l_3, ld_l_2, ld_l_3, ld_r_2, ld_r_3, ld_l_at, Nat.zero_add, bd_nil, bd_2, bd_3, XD_build, XO_fld, XD_fld, XO_cvBS, XD_cvBS, bs_sl, bs_nil, XO_cvSB, XD_cvSB, sb_txt, XO_slL, XD_slL, Option.map_some, Option.map_none, XO_mksl, XO_iadL, XO_ld, XO_fad, ld_rptr, fd_r, fd_p, fd_e, List.drop_zero, List.drop_succ_cons, mkParts_nil, mkParts_cons, mkO_1, mkO_2, mk_agg2, mk_agg3, src_sl, mmO_min, mmO_max, XW_some, XV_some, ln_nil, ln_sl, ln_own, ln_str, cvO_eq, pkO_t, pkO_f, exO_eq, evalO_t, evalO_c, putD_some, putD_none, slot_len, slot_eq, slot_ne, ne_eq, Nat.reduceLT, Nat.reduceEqDiff, not_false_eq_true, not_true_eq_false, reduceCtorEq, XO_nil, RQ_0, RQ_0n, RQ_1, RQ_2, RQ_3, K_norm, K_exit, K_goto, K_ret, K_pan, B_norm, B_exit, B_goto, B_ret, B_pan, S_norm, S_exit, S_ret, S_pan, X_cnd, XB_true, XB_false, bin_add, bin_sub, bin_mul, bin_and, bin_or, bin_shr, bin_shl, bin_quo, bin_rem, Int.reduceLT, Int.reduceEq, bin_eql, bin_neq, bin_lss, bin_leq, bin_gtr, bin_geq, bin_seql, bin_sneq, decide_true, decide_false, eq_self, if_true, if_false, List.getElem?_cons_zero, List.getElem?_cons_succ, hs, h1, h8, e4, e5, ea, hz, hM]
            exact bad _ (by simp only [slot_len, hs]) (by omega)
        · by_cases hz : (c.toNat : Int) = 0
          · by_cases hi0 : (0 : Int) < i
            · simp only [X_skip, X_seq, X_reg, X_block, X_scope, X_exit, X_goto, X_ret, X_label, XO_mv, XO_g, XG_tt, XG_tf, XG_ft, XG_ff, XO_bin, XO_cvI, XO_pick, XO_ext, XO_len, XO_mnmx, XD_mv, XD_g, XGD_tt, XGD_tf, XGD_ft, XGD_ff, XD_bin, XD_cvI, XD_pick, XD_ext, XD_len, XD_mnmx, XD_mksl, XD_iadL, XD_ld, XD_fad, XD_nil, XWD_some, XVD_same, XVD_k, XO_alloc, XO_st, XD_st, XO_box, XO_mkslo, XD_mkslo, XO_mrk, XD_mrk, mr_0, XO_build, st_0_2, st_0_3, st_l_2, st_l_3, ld_l_2, ld_l_3, ld_r_2, ld_r_3, ld_l_at, Nat.zero_add, bd_nil, bd_2, bd_3, XD_build, XO_fld, XD_fld, XO_cvBS, XD_cvBS, bs_sl, bs_nil, XO_cvSB, XD_cvSB, sb_txt, XO_slL, XD_slL, Option.map_some, Option.map_none, XO_mksl, XO_iadL, XO_ld, XO_fad, ld_rptr, fd_r, fd_p, fd_e, List.drop_zero, List.drop_succ_cons, mkParts_nil, mkParts_cons, mkO_1, mkO_2, mk_agg2, mk_agg3, src_sl, mmO_min, mmO_max, XW_some, XV_some, ln_nil, ln_sl, ln_own, ln_str, cvO_eq, pkO_t, pkO_f, exO_eq, evalO_t, evalO_c, putD_some, putD_none, slot_len, slot_eq, slot_ne, ne_eq, Nat.reduceLT, Nat.reduceEqDiff, not_false_eq_true, not_true_eq_false, reduceCtorEq, XO_nil, RQ_0, RQ_0n, RQ_1, RQ_2, RQ_3, K_norm, K_exit, K_goto, K_ret, K_pan, B_norm, B_exit, B_goto, B_ret, B_pan, S_norm, S_exit, S_ret, S_pan, X_cnd, XB_true, XB_false, bin_add, bin_sub, bin_mul, bin_and, bin_or, bin_shr, bin_shl, bin_quo, bin_rem, Int.reduceLT, Int.reduceEq, bin_eql, bin_neq, bin_lss, bin_leq, bin_gtr, bin_geq, bin_seql, bin_sneq, decide_true, decide_false, eq_self, if_true, if_false, List.getElem?_cons_zero, List.getElem?_cons_succ, hs, h1, h8, e4, e5, ea, eq_true hz, hi0, hM]
              exact bad _ (by simp only [slot_len, hs]) (by omega)
            · simp only [X_skip, X_seq, X_reg, X_block, X_scope, X_exit, X_goto, X_ret, X_label, XO_mv, XO_g, XG_tt, XG_tf, XG_ft, XG_ff, XO_bin, XO_cvI, XO_pick, XO_ext, XO_len, XO_mnmx, XD_mv, XD_g, XGD_tt, XGD_tf, XGD_ft, XGD_ff, XD_bin, XD_cvI, XD_pick, XD_ext, XD_len, XD_mnmx, XD_mksl, XD_iadL, XD_ld, XD_fad, XD_nil, XWD_some, XVD_same, XVD_k, XO_alloc, XO_st, XD_st, XO_box, XO_mkslo, XD_mkslo, XO_mrk, XD_mrk, mr_0, XO_build, st_0_2, st_0_3, st_l_2, st_l_3, ld_l_2, ld_l_3, ld_r_2, ld_r_3, ld_l_at, Nat.zero_add, bd_nil, bd_2, bd_3, XD_build, XO_fld, XD_fld, XO_cvBS, XD_cvBS, bs_sl, bs_nil, XO_cvSB, XD_cvSB, sb_txt, XO_slL, XD_slL, Option.map_some, Option.map_none, XO_mksl, XO_iadL, XO_ld, XO_fad, ld_rptr, fd_r, fd_p, fd_e, List.drop_zero, List.drop_succ_cons, mkParts_nil, mkParts_cons, mkO_1, mkO_2, mk_agg2, mk_agg3, src_sl, mmO_min, mmO_max, XW_some, XV_some, ln_nil, ln_sl, ln_own, ln_str, cvO_eq, pkO_t, pkO_f, exO_eq, evalO_t, evalO_c, putD_some, putD_none, slot_len, slot_eq, slot_ne, ne_eq, Nat.reduceLT, Nat.reduceEqDiff, not_false_eq_true, not_true_eq_false, reduceCtorEq, XO_nil, RQ_0, RQ_0n, RQ_1, RQ_2, RQ_3, K_norm, K_exit, K_goto, K_ret, K_pan, B_norm, B_exit, B_goto, B_ret, B_pan, S_norm, S_exit, S_ret, S_pan, X_cnd, XB_true, XB_false, bin_add, bin_sub, bin_mul, bin_and, bin_or, bin_shr, bin_shl, bin_quo, bin_rem, Int.reduceLT, Int.reduceEq, bin_eql, bin_neq, bin_lss, bin_leq, bin_gtr, bin_geq, bin_seql, bin_sneq, decide_true, decide_false, eq_self, if_true, if_false, List.getElem?_cons_zero, List.getElem?_cons_succ, hs, h1, h8, e4, e5, ea, eq_true hz, hi0, hM]
              exact ret _ (by simp only [slot_len, hs]) (by omega) (by simp only [X_skip, X_seq, X_reg, X_block, X_scope, X_exit, X_goto, X_ret, X_label, XO_mv, XO_g, XG_tt, XG_tf, XG_ft, XG_ff, XO_bin, XO_cvI, XO_pick, XO_ext, XO_len, XO_mnmx, XD_mv, XD_g, XGD_tt, XGD_tf, XGD_ft, XGD_ff, XD_bin, XD_cvI, XD_pick, XD_ext, XD_len, XD_mnmx, XD_mksl, XD_iadL, XD_ld, XD_fad, XD_nil, XWD_some, XVD_same, XVD_k, XO_alloc, XO_st, XD_st, XO_box, XO_mkslo, XD_mkslo, XO_mrk, XD_mrk, mr_0, XO_build, st_0_2, st_0_3, st_l_2, st_l_3, ld_l_2, ld_l_3, ld_r_2, ld_r_3, ld_l_at, Nat.zero_add, bd_nil, bd_2, bd_3, XD_build, XO_fld, XD_fld, XO_cvBS, XD_cvBS, bs_sl, bs_nil, XO_cvSB, XD_cvSB, sb_txt, XO_slL, XD_slL, Option.map_some, Option.map_none, XO_mksl, XO_iadL, XO_ld, XO_fad, ld_rptr, fd_r, fd_p, fd_e, List.drop_zero, List.drop_succ_cons, mkParts_nil, mkParts_cons, mkO_1, mkO_2, mk_agg2, mk_agg3, src_sl, mmO_min, mmO_max, XW_some, XV_some, ln_nil, ln_sl, ln_own, ln_str, cvO_eq, pkO_t, pkO_f, exO_eq, evalO_t, evalO_c, putD_some, putD_none, slot_len, slot_eq, slot_ne, ne_eq, Nat.reduceLT, Nat.reduceEqDiff, not_false_eq_true, not_true_eq_false, reduceCtorEq, XO_nil, RQ_0, RQ_0n, RQ_1, RQ_2, RQ_3, K_norm, K_exit, K_goto, K_ret, K_pan, B_norm, B_exit, B_goto, B_ret, B_pan, S_norm, S_exit, S_ret, S_pan, X_cnd, XB_true, XB_false, bin_add, bin_sub, bin_mul, bin_and, bin_or, bin_shr, bin_shl, bin_quo, bin_rem, Int.reduceLT, Int.reduceEq, bin_eql, bin_neq, bin_lss, bin_leq, bin_gtr, bin_geq, bin_seql, bin_sneq, decide_true, decide_false, eq_self, if_true, if_false, List.getElem?_cons_zero, List.getElem?_cons_succ, hs]) (by simp only [X_skip, X_seq, X_reg, X_block, X_scope, X_exit, X_goto, X_ret, X_label, XO_mv, XO_g, XG_tt, XG_tf, XG_ft, XG_ff, XO_bin, XO_cvI, XO_pick, XO_ext, XO_len, XO_mnmx, XD_mv, XD_g, XGD_tt, XGD_tf, XGD_ft, XGD_ff, XD_bin, XD_cvI, XD_pick, XD_ext, XD_len, XD_mnmx, XD_mksl, XD_iadL, XD_ld, XD_fad, XD_nil, XWD_some, XVD_same, XVD_k, XO_alloc, XO_st, XD_st, XO_box, XO_mkslo, XD_mkslo, XO_mrk, XD_mrk, mr_0, XO_build, st_0_2, st_0_3, st_l_2, st_l_3, ld_l_2, ld_l_3, ld_r_2, ld_r_3, ld_l_at, Nat.zero_add, bd_nil, bd_2, bd_3, XD_build, XO_fld, XD_fld, XO_cvBS, XD_cvBS, bs_sl, bs_nil, XO_cvSB, XD_cvSB, sb_txt, XO_slL, XD_slL, Option.map_some, Option.map_none, XO_mksl, XO_iadL, XO_ld, XO_fad, ld_rptr, fd_r, fd_p, fd_e, List.drop_zero, List.drop_succ_cons, mkParts_nil, mkParts_cons, mkO_1, mkO_2, mk_agg2, mk_agg3, src_sl, mmO_min, mmO_max, XW_some, XV_some, ln_nil, ln_sl, ln_own, ln_str, cvO_eq, pkO_t, pkO_f, exO_eq, evalO_t, evalO_c, putD_some, putD_none, slot_len, slot_eq, slot_ne, ne_eq, Nat.reduceLT, Nat.reduceEqDiff, not_false_eq_true, not_true_eq_false, reduceCtorEq, XO_nil, RQ_0, RQ_0n, RQ_1, RQ_2, RQ_3, K_norm, K_exit, K_goto, K_ret, K_pan, B_norm, B_exit, B_goto, B_ret, B_pan, S_norm, S_exit, S_ret, S_pan, X_cnd, XB_true, XB_false, bin_add, bin_sub, bin_mul, bin_and, bin_or, bin_shr, bin_shl, bin_quo, bin_rem, Int.reduceLT, Int.reduceEq, bin_eql, bin_neq, bin_lss, bin_leq, bin_gtr, bin_geq, bin_seql, bin_sneq, decide_true, decide_false, eq_self, if_true, if_false, List.getElem?_cons_zero, List.getElem?_cons_succ, hs]) (by simp only [X_skip, X_seq, X_reg, X_block, X_scope, X_exit, X_goto, X_ret, X_label, XO_mv, XO_g, XG_tt, XG_tf, XG_ft, XG_ff, XO_bin, XO_cvI, XO_pick, XO_ext, XO_len, XO_mnmx, XD_mv, XD_g, XGD_tt, XGD_tf, XGD_ft, XGD_ff, XD_bin, XD_cvI, XD_pick, XD_ext, XD_len, XD_mnmx, XD_mksl, XD_iadL, XD_ld, XD_fad, XD_nil, XWD_some, XVD_same, XVD_k, XO_alloc, XO_st, XD_st, XO_box, XO_mkslo, XD_mkslo, XO_mrk, XD_mrk, mr_0, XO_build, st_0_2, st_0_3, st_l_2, st_l_3, ld_l_2, ld_l_3, ld_r_2, ld_r_3, ld_l_at, Nat.zero_add, bd_nil, bd_2, bd_3, XD_build, XO_fld, XD_fld, XO_cvBS, XD_cvBS, bs_sl, bs_nil, XO_cvSB, XD_cvSB, sb_txt, XO_slL, XD_slL, Option.map_some, Option.map_none, XO_mksl, XO_iadL, XO_ld, XO_fad, ld_rptr, fd_r, fd_p, fd_e, List.drop_zero, List.drop_succ_cons, mkParts_nil, mkParts_cons, mkO_1, mkO_2, mk_agg2, mk_agg3, src_sl, mmO_min, mmO_max, XW_some, XV_some, ln_nil, ln_sl, ln_own, ln_str, cvO_eq, pkO_t, pkO_f, exO_eq, evalO_t, evalO_c, putD_some, putD_none, slot_len, slot_eq, slot_ne, ne_eq, Nat.reduceLT, Nat.reduceEqDiff, not_false_eq_true, not_true_eq_false, reduceCtorEq, XO_nil, RQ_0, RQ_0n, RQ_1, RQ_2, RQ_3, K_norm, K_exit, K_goto, K_ret, K_pan, B_norm, B_exit, B_goto, B_ret, B_pan, S_norm, S_exit, S_ret, S_pan, X_cnd, XB_true, XB_false, bin_add, bin_sub, bin_mul, bin_and, bin_or, bin_shr, bin_shl, bin_quo, bin_rem, Int.reduceLT, Int.reduceEq, bin_eql, bin_neq, bin_lss, bin_leq, bin_gtr, bin_geq, bin_seql, bin_sneq, decide_true, decide_false, eq_self, if_true, if_false, List.getElem?_cons_zero, List.getElem?_cons_succ, hs])
          · simp only [X_skip, X_seq, X_reg, X_block, X_scope, X_exit, X_goto, X_ret, X_label, XO_mv, XO_g, XG_tt, XG_tf, XG_ft, XG_ff, XO_bin, XO_cvI, XO_pick, XO_ext, XO_len, XO_mnmx, XD_mv, XD_g, XGD_tt, XGD_tf, XGD_ft, XGD_ff, XD_bin, XD_cvI, XD_pick, XD_ext, XD_len, XD_mnmx, XD_mksl, XD_iadL, XD_ld, XD_fad, XD_nil, XWD_some, XVD_same, XVD_k, XO_alloc, XO_st, XD_st, XO_box, XO_mkslo, XD_mkslo, XO_mrk, XD_mrk, mr_0, XO_build, st_0_2, st_0_3, st_l_2, st_l_3, ld_l_2, ld_l_3, ld_r_2, ld_r_3, ld_l_at, Nat.zero_add, bd_nil, bd_2, bd_3, XD_build, XO_fld, XD_fld, XO_cvBS, XD_cvBS, bs_sl, bs_nil, XO_cvSB, XD_cvSB, sb_txt, XO_slL, XD_slL, Option.map_some, Option.map_none, XO_mksl, XO_iadL, XO_ld, XO_fad, ld_rptr, fd_r, fd_p, fd_e, List.drop_zero, List.drop_succ_cons, mkParts_nil, mkParts_cons, mkO_1, mkO_2, mk_agg2, mk_agg3, src_sl, mmO_min, mmO_max, XW_some, XV_some, ln_nil, ln_sl, ln_own, ln_str, cvO_eq, pkO_t, pkO_f, exO_eq, evalO_t, evalO_c, putD_some, putD_none, slot_len, slot_eq, slot_ne, ne_eq, Nat.reduceLT, Nat.reduceEqDiff, not_false_eq_true, not_true_eq_false, reduceCtorEq, XO_nil, RQ_0, RQ_0n, RQ_1, RQ_2, RQ_3, K_norm, K_exit, K_goto, K_ret, K_pan, B_norm, B_exit, B_goto, B_ret, B_pan, S_norm, S_exit, S_ret, S_pan, X_cnd, XB_true, XB_false, bin_add, bin_sub, bin_mul, bin_and, bin_or, bin_shr, bin_shl, bin_quo, bin_rem, Int.reduceLT, Int.reduceEq, bin_eql, bin_neq, bin_lss, bin_leq, bin_gtr, bin_geq, bin_seql, bin_sneq, decide_true, decide_false, eq_self, if_true, if_false, List.getElem?_cons_zero, List.getElem?_cons_succ, hs, h1, h8, e4, e5, ea, hz, hM]
            exact ret _ (by simp only [slot_len, hs]) (by omega) (by simp only [X_skip, X_seq, X_reg, X_block, X_scope, X_exit, X_goto, X_ret, X_label, XO_mv, XO_g, XG_tt, XG_tf, XG_ft, XG_ff, XO_bin, XO_cvI, XO_pick, XO_ext, XO_len, XO_mnmx, XD_mv, XD_g, XGD_tt, XGD_tf, XGD_ft, XGD_ff, XD_bin, XD_cvI, XD_pick, XD_ext, XD_len, XD_mnmx, XD_mksl, XD_iadL, XD_ld, XD_fad, XD_nil, XWD_some, XVD_same, XVD_k, XO_alloc, XO_st, XD_st, XO_box, XO_mkslo, XD_mkslo, XO_mrk, XD_mrk, mr_0, XO_build, st_0_2, st_0_3, st_l_2, st_l_3, ld_l_2, ld_l_3, ld_r_2, ld_r_3, ld_l_at, Nat.zero_add, bd_nil, bd_2, bd_3, XD_build, XO_fld, XD_fld, XO_cvBS, XD_cvBS, bs_sl, bs_nil, XO_cvSB, XD_cvSB, sb_txt, XO_slL, XD_slL, Option.map_some, Option.map_none, XO_mksl, XO_iadL, XO_ld, XO_fad, ld_rptr, fd_r, fd_p, fd_e, List.drop_zero, List.drop_succ_cons, mkParts_nil, mkParts_cons, mkO_1, mkO_2, mk_agg2, mk_agg3, src_sl, mmO_min, mmO_max, XW_some, XV_some, ln_nil, ln_sl, ln_own, ln_str, cvO_eq, pkO_t, pkO_f, exO_eq, evalO_t, evalO_c, putD_some, putD_none, slot_len, slot_eq, slot_ne, ne_eq, Nat.reduceLT, Nat.reduceEqDiff, not_false_eq_true, not_true_eq_false, reduceCtorEq, XO_nil, RQ_0, RQ_0n, RQ_1, RQ_2, RQ_3, K_norm, K_exit, K_goto, K_ret, K_pan, B_norm, B_exit, B_goto, B_ret, B_pan, S_norm, S_exit, S_ret, S_pan, X_cnd, XB_true, XB_false, bin_add, bin_sub, bin_mul, bin_and, bin_or, bin_shr, bin_shl, bin_quo, bin_rem, Int.reduceLT, Int.reduceEq, bin_eql, bin_neq, bin_lss, bin_leq, bin_gtr, bin_geq, bin_seql, bin_sneq, decide_true, decide_false, eq_self, if_true, if_false, List.getElem?_cons_zero, List.getElem?_cons_succ, hs]) (by simp only [X_skip, X_seq, X_reg, X_block, X_scope, X_exit, X_goto, X_ret, X_label, XO_mv, XO_g, XG_tt, XG_tf, XG_ft, XG_ff, XO_bin, XO_cvI, XO_pick, XO_ext, XO_len, XO_mnmx, XD_mv, XD_g, XGD_tt, XGD_tf, XGD_ft, XGD_ff, XD_bin, XD_cvI, XD_pick, XD_ext, XD_len, XD_mnmx, XD_mksl, XD_iadL, XD_ld, XD_fad, XD_nil, XWD_some, XVD_same, XVD_k, XO_alloc, XO_st, XD_st, XO_box, XO_mkslo, XD_mkslo, XO_mrk, XD_mrk, mr_0, XO_build, st_0_2, st_0_3, st_l_2, st_l_3, ld_l_2, ld_l_3, ld_r_2, ld_r_3, ld_l_at, Nat.zero_add, bd_nil, bd_2, bd_3, XD_build, XO_fld, XD_fld, XO_cvBS, XD_cvBS, bs_sl, bs_nil, XO_cvSB, XD_cvSB, sb_txt, XO_slL, XD_slL, Option.map_some, Option.map_none, XO_mksl, XO_iadL, XO_ld, XO_fad, ld_rptr, fd_r, fd_p, fd_e, List.drop_zero, List.drop_succ_cons, mkParts_nil, mkParts_cons, mkO_1, mkO_2, mk_agg2, mk_agg3, src_sl, mmO_min, mmO_max, XW_some, XV_some, ln_nil, ln_sl, ln_own, ln_str, cvO_eq, pkO_t, pkO_f, exO_eq, evalO_t, evalO_c, putD_some, putD_none, slot_len, slot_eq, slot_ne, ne_eq, Nat.reduceLT, Nat.reduceEqDiff, not_false_eq_true, not_true_eq_false, reduceCtorEq, XO_nil, RQ_0, RQ_0n, RQ_1, RQ_2, RQ_3, K_norm, K_exit, K_goto, K_ret, K_pan, B_norm, B_exit, B_goto, B_ret, B_pan, S_norm, S_exit, S_ret, S_pan, X_cnd, XB_true, XB_false, bin_add, bin_sub, bin_mul, bin_and, bin_or, bin_shr, bin_shl, bin_quo, bin_rem, Int.reduceLT, Int.reduceEq, bin_eql, bin_neq, bin_lss, bin_leq, bin_gtr, bin_geq, bin_seql, bin_sneq, decide_true, decide_false, eq_self, if_true, if_false, List.getElem?_cons_zero, List.getElem?_cons_succ, hs]) (by simp only [X_skip, X_seq, X_reg, X_block, X_scope, X_exit, X_goto, X_ret, X_label, XO_mv, XO_g, XG_tt, XG_tf, XG_ft, XG_ff, XO_bin, XO_cvI, XO_pick, XO_ext, XO_len, XO_mnmx, XD_mv, XD_g, XGD_tt, XGD_tf, XGD_ft, XGD_ff, XD_bin, XD_cvI, XD_pick, XD_ext, XD_len, XD_mnmx, XD_mksl, XD_iadL, XD_ld, XD_fad, XD_nil, XWD_some, XVD_same, XVD_k, XO_alloc, XO_st, XD_st, XO_box, XO_mkslo, XD_mkslo, XO_mrk, XD_mrk, mr_0, XO_build, st_0_2, st_0_3, st_l_2, st_l_3, ld_l_2, ld_l_3, ld_r_2, ld_r_3, ld_l_at, Nat.zero_add, bd_nil, bd_2, bd_3, XD_build, XO_fld, XD_fld, XO_cvBS, XD_cvBS, bs_sl, bs_nil, XO_cvSB, XD_cvSB, sb_txt, XO_slL, XD_slL, Option.map_some, Option.map_none, XO_mksl, XO_iadL, XO_ld, XO_fad, ld_rptr, fd_r, fd_p, fd_e, List.drop_zero, List.drop_succ_cons, mkParts_nil, mkParts_cons, mkO_1, mkO_2, mk_agg2, mk_agg3, src_sl, mmO_min, mmO_max, XW_some, XV_some, ln_nil, ln_sl, ln_own, ln_str, cvO_eq, pkO_t, pkO_f, exO_eq, evalO_t, evalO_c, putD_some, putD_none, slot_len, slot_eq, slot_ne, ne_eq, Nat.reduceLT, Nat.reduceEqDiff, not_false_eq_true, not_true_eq_false, reduceCtorEq, XO_nil, RQ_0, RQ_0n, RQ_1, RQ_2, RQ_3, K_norm, K_exit, K_goto, K_ret, K_pan, B_norm, B_exit, B_goto, B_ret, B_pan, S_norm, S_exit, S_ret, S_pan, X_cnd, XB_true, XB_false, bin_add, bin_sub, bin_mul, bin_and, bin_or, bin_shr, bin_shl, bin_quo, bin_rem, Int.reduceLT, Int.reduceEq, bin_eql, bin_neq, bin_lss, bin_leq, bin_gtr, bin_geq, bin_seql, bin_sneq, decide_true, decide_false, eq_self, if_true, if_false, List.getElem?_cons_zero, List.getElem?_cons_succ, hs])
      · simp only [hcm, if_false] at hQ
        have e4 : ¬ bits .and .u8 (c.toNat : Int) 128 = 0 := by rw [u8_and128 _ hc256, if_neg hcm]; decide
        have e5 : IntKind.i64.wrap ((i : Int) + 1) = ((i + 1 : Nat) : Int) := by rw [IntWalk.i64_in _ (by omega)]; omega
        simp only [X_skip, X_seq, X_reg, X_block, X_scope, X_exit, X_goto, X_ret, X_label, XO_mv, XO_g, XG_tt, XG_tf, XG_ft, XG_ff, XO_bin, XO_cvI, XO_pick, XO_ext, XO_len, XO_mnmx, XD_mv, XD_g, XGD_tt, XGD_tf, XGD_ft, XGD_ff, XD_bin, XD_cvI, XD_pick, XD_ext, XD_len, XD_mnmx, XD_mksl, XD_iadL, XD_ld, XD_fad, XD_nil, XWD_some, XVD_same, XVD_k, XO_alloc, XO_st, XD_st, XO_box, XO_mkslo, XD_mkslo, XO_mrk, XD_mrk, mr_0, XO_build, st_0_2, st_0_3, st_l_2, st_l_3, ld_l_2, ld_l_3, ld_r_2, ld_r_3, ld_l_at, Nat.zero_add, bd_nil, bd_2, bd_3, XD_build, XO_fld, XD_fld, XO_cvBS, XD_cvBS, bs_sl, bs_nil, XO_cvSB, XD_cvSB, sb_txt, XO_slL, XD_slL, Option.map_some, Option.map_none, XO_mksl, XO_iadL, XO_ld, XO_fad, ld_rptr, fd_r, fd_p, fd_e, List.drop_zero, List.drop_succ_cons, mkParts_nil, mkParts_cons, mkO_1, mkO_2, mk_agg2, mk_agg3, src_sl, mmO_min, mmO_max, XW_some, XV_some, ln_nil, ln_sl, ln_own, ln_str, cvO_eq, pkO_t, pkO_f, exO_eq, evalO_t, evalO_c, putD_some, putD_none, slot_len, slot_eq, slot_ne, ne_eq, Nat.reduceLT, Nat.reduceEqDiff, not_false_eq_true, not_true_eq_false, reduceCtorEq, XO_nil, RQ_0, RQ_0n, RQ_1, RQ_2, RQ_3, K_norm, K_exit, K_goto, K_ret, K_pan, B_norm, B_exit, B_goto, B_ret, B_pan, S_norm, S_exit, S_ret, S_pan, X_cnd, XB_true, XB_false, bin_add, bin_sub, bin_mul, bin_and, bin_or, bin_shr, bin_shl, bin_quo, bin_rem, Int.reduceLT, Int.reduceEq, bin_eql, bin_neq, bin_lss, bin_leq, bin_gtr, bin_geq, bin_seql, bin_sneq, decide_true, decide_false, eq_self, if_true, if_false, List.getElem?_cons_zero, List.getElem?_cons_succ, hs, h8, e4, e5]
        refine ih (i + 1) m _ (by omega) hm ?_ ?_ ?_ ?_ ?_ (by omega) ?_
        · simp only [slot_len, hs]
        · simp only [X_skip, X_seq, X_reg, X_block, X_scope, X_exit, X_goto, X_ret, X_label, XO_mv, XO_g, XG_tt, XG_tf, XG_ft, XG_ff, XO_bin, XO_cvI, XO_pick, XO_ext, XO_len, XO_mnmx, XD_mv, XD_g, XGD_tt, XGD_tf, XGD_ft, XGD_ff, XD_bin, XD_cvI, XD_pick, XD_ext, XD_len, XD_mnmx, XD_mksl, XD_iadL, XD_ld, XD_fad, XD_nil, XWD_some, XVD_same, XVD_k, XO_alloc, XO_st, XD_st, XO_box, XO_mkslo, XD_mkslo, XO_mrk, XD_mrk, mr_0, XO_build, st_0_2, st_0_3, st_l_2, st_l_3, ld_l_2, ld_l_3, ld_r_2, ld_r_3, ld_l_at, Nat.zero_add, bd_nil, bd_2, bd_3, XD_build, XO_fld, XD_fld, XO_cvBS, XD_cvBS, bs_sl, bs_nil, XO_cvSB, XD_cvSB, sb_txt, XO_slL, XD_slL, Option.map_some, Option.map_none, XO_mksl, XO_iadL, XO_ld, XO_fad, ld_rptr, fd_r, fd_p, fd_e, List.drop_zero, List.drop_succ_cons, mkParts_nil, mkParts_cons, mkO_1, mkO_2, mk_agg2, mk_agg3, src_sl, mmO_min, mmO_max, XW_some, XV_some, ln_nil, ln_sl, ln_own, ln_str, cvO_eq, pkO_t, pkO_f, exO_eq, evalO_t, evalO_c, putD_some, putD_none, slot_len, slot_eq, slot_ne, ne_eq, Nat.reduceLT, Nat.reduceEqDiff, not_false_eq_true, not_true_eq_false, reduceCtorEq, XO_nil, RQ_0, RQ_0n, RQ_1, RQ_2, RQ_3, K_norm, K_exit, K_goto, K_ret, K_pan, B_norm, B_exit, B_goto, B_ret, B_pan, S_norm, S_exit, S_ret, S_pan, X_cnd, XB_true, XB_false, bin_add, bin_sub, bin_mul, bin_and, bin_or, bin_shr, bin_shl, bin_quo, bin_rem, Int.reduceLT, Int.reduceEq, bin_eql, bin_neq, bin_lss, bin_leq, bin_gtr, bin_geq, bin_seql, bin_sneq, decide_true, decide_false, eq_self, if_true, if_false, List.getElem?_cons_zero, List.getElem?_cons_succ, hs, h0]
        · simp only [X_skip, X_seq, X_reg, X_block, X_scope, X_exit, X_goto, X_ret, X_label, XO_mv, XO_g, XG_tt, XG_tf, XG_ft, XG_ff, XO_bin, XO_cvI, XO_pick, XO_ext, XO_len, XO_mnmx, XD_mv, XD_g, XGD_tt, XGD_tf, XGD_ft, XGD_ff, XD_bin, XD_cvI, XD_pick, XD_ext, XD_len, XD_mnmx, XD_mksl, XD_iadL, XD_ld, XD_fad, XD_nil, XWD_some, XVD_same, XVD_k, XO_alloc, XO_st, XD_st, XO_box, XO_mkslo, XD_mkslo, XO_mrk, XD_mrk, mr_0, XO_build, st_0_2, st_0_3, st_l_2, st_l_3, ld_l_2, ld_l_3, ld_r_2, ld_r_3, ld_l_at, Nat.zero_add, bd_nil, bd_2, bd_3, XD_build, XO_fld, XD_fld, XO_cvBS, XD_cvBS, bs_sl, bs_nil, XO_cvSB, XD_cvSB, sb_txt, XO_slL, XD_slL, Option.map_some, Option.map_none, XO_mksl, XO_iadL, XO_ld, XO_fad, ld_rptr, fd_r, fd_p, fd_e, List.drop_zero, List.drop_succ_cons, mkParts_nil, mkParts_cons, mkO_1, mkO_2, mk_agg2, mk_agg3, src_sl, mmO_min, mmO_max, XW_some, XV_some, ln_nil, ln_sl, ln_own, ln_str, cvO_eq, pkO_t, pkO_f, exO_eq, evalO_t, evalO_c, putD_some, putD_none, slot_len, slot_eq, slot_ne, ne_eq, Nat.reduceLT, Nat.reduceEqDiff, not_false_eq_true, not_true_eq_false, reduceCtorEq, XO_nil, RQ_0, RQ_0n, RQ_1, RQ_2, RQ_3, K_norm, K_exit, K_goto, K_ret, K_pan, B_norm, B_exit, B_goto, B_ret, B_pan, S_norm, S_exit, S_ret, S_pan, X_cnd, XB_true, XB_false, bin_add, bin_sub, bin_mul, bin_and, bin_or, bin_shr, bin_shl, bin_quo, bin_rem, Int.reduceLT, Int.reduceEq, bin_eql, bin_neq, bin_lss, bin_leq, bin_gtr, bin_geq, bin_seql, bin_sneq, decide_true, decide_false, eq_self, if_true, if_false, List.getElem?_cons_zero, List.getElem?_cons_succ, hs, h1]
        · simp only [X_skip, X_seq, X_reg, X_block, X_scope, X_exit, X_goto, X_ret, X_label, XO_mv, XO_g, XG_tt, XG_tf, XG_ft, XG_ff, XO_bin, XO_cvI, XO_pick, XO_ext, XO_len, XO_mnmx, XD_mv, XD_g, XGD_tt, XGD_tf, XGD_ft, XGD_ff, XD_bin, XD_cvI, XD_pick, XD_ext, XD_len, XD_mnmx, XD_mksl, XD_iadL, XD_ld, XD_fad, XD_nil, XWD_some, XVD_same, XVD_k, XO_alloc, XO_st, XD_st, XO_box, XO_mkslo, XD_mkslo, XO_mrk, XD_mrk, mr_0, XO_build, st_0_2, st_0_3, st_l_2, st_l_3, ld_l_2, ld_l_3, ld_r_2, ld_r_3, ld_l_at, Nat.zero_add, bd_nil, bd_2, bd_3, XD_build, XO_fld, XD_fld, XO_cvBS, XD_cvBS, bs_sl, bs_nil, XO_cvSB, XD_cvSB, sb_txt, XO_slL, XD_slL, Option.map_some, Option.map_none, XO_mksl, XO_iadL, XO_ld, XO_fad, ld_rptr, fd_r, fd_p, fd_e, List.drop_zero, List.drop_succ_cons, mkParts_nil, mkParts_cons, mkO_1, mkO_2, mk_agg2, mk_agg3, src_sl, mmO_min, mmO_max, XW_some, XV_some, ln_nil, ln_sl, ln_own, ln_str, cvO_eq, pkO_t, pkO_f, exO_eq, evalO_t, evalO_c, putD_some, putD_none, slot_len, slot_eq, slot_ne, ne_eq, Nat.reduceLT, Nat.reduceEqDiff, not_false_eq_true, not_true_eq_false, reduceCtorEq, XO_nil, RQ_0, RQ_0n, RQ_1, RQ_2, RQ_3, K_norm, K_exit, K_goto, K_ret, K_pan, B_norm, B_exit, B_goto, B_ret, B_pan, S_norm, S_exit, S_ret, S_pan, X_cnd, XB_true, XB_false, bin_add, bin_sub, bin_mul, bin_and, bin_or, bin_shr, bin_shl, bin_quo, bin_rem, Int.reduceLT, Int.reduceEq, bin_eql, bin_neq, bin_lss, bin_leq, bin_gtr, bin_geq, bin_seql, bin_sneq, decide_true, decide_false, eq_self, if_true, if_false, List.getElem?_cons_zero, List.getElem?_cons_succ, hs]
        · simp only [X_skip, X_seq, X_reg, X_block, X_scope, X_exit, X_goto, X_ret, X_label, XO_mv, XO_g, XG_tt, XG_tf, XG_ft, XG_ff, XO_bin, XO_cvI, XO_pick, XO_ext, XO_len, XO_mnmx, XD_mv, XD_g, XGD_tt, XGD_tf, XGD_ft, XGD_ff, XD_bin, XD_cvI, XD_pick, XD_ext, XD_len, XD_mnmx, XD_mksl, XD_iadL, XD_ld, XD_fad, XD_nil, XWD_some, XVD_same, XVD_k, XO_alloc, XO_st, XD_st, XO_box, XO_mkslo, XD_mkslo, XO_mrk, XD_mrk, mr_0, XO_build, st_0_2, st_0_3, st_l_2, st_l_3, ld_l_2, ld_l_3, ld_r_2, ld_r_3, ld_l_at, Nat.zero_add, bd_nil, bd_2, bd_3, XD_build, XO_fld, XD_fld, XO_cvBS, XD_cvBS, bs_sl, bs_nil, XO_cvSB, XD_cvSB, sb_txt, XO_slL, XD_slL, Option.map_some, Option.map_none, XO_mksl, XO_iadL, XO_ld, XO_fad, ld_rptr, fd_r, fd_p, fd_e, List.drop_zero, List.drop_succ_cons, mkParts_nil, mkParts_cons, mkO_1, mkO_2, mk_agg2, mk_agg3, src_sl, mmO_min, mmO_max, XW_some, XV_some, ln_nil, ln_sl, ln_own, ln_str, cvO_eq, pkO_t, pkO_f, exO_eq, evalO_t, evalO_c, putD_some, putD_none, slot_len, slot_eq, slot_ne, ne_eq, Nat.reduceLT, Nat.reduceEqDiff, not_false_eq_true, not_true_eq_false, reduceCtorEq, XO_nil, RQ_0, RQ_0n, RQ_1, RQ_2, RQ_3, K_norm, K_exit, K_goto, K_ret, K_pan, B_norm, B_exit, B_goto, B_ret, B_pan, S_norm, S_exit, S_ret, S_pan, X_cnd, XB_true, XB_false, bin_add, bin_sub, bin_mul, bin_and, bin_or, bin_shr, bin_shl, bin_quo, bin_rem, Int.reduceLT, Int.reduceEq, bin_eql, bin_neq, bin_lss, bin_leq, bin_gtr, bin_geq, bin_seql, bin_sneq, decide_true, decide_false, eq_self, if_true, if_false, List.getElem?_cons_zero, List.getElem?_cons_succ, hs]
        · exact hQ

theorem getN_err : ∀ k r at_ i n, (getN k r at_ i n).2.2 = 0 ∨ getN k r at_ i n = (0, 0, 10) ∨ getN k r at_ i n = (0, 0, 11)
  | 0, _, _, _, _ => by simp [getN]
  | k + 1, [], _, _, _ => by simp [getN]
  | k + 1, c :: r, at_, i, n => by
    simp only [getN]
    split
    · split <;> simp
    · exact getN_err k r _ _ _

theorem num_f13 (b : List UInt8) (v : VV) (hv : SlV 1 (eB b) v) (at_ : Int) (h : Heap) (hb : b.length ≤ 1000000000) :
    call F 13 [v, vi .i64 at_] h = some (.ret (.tup [vi .i64 (getNum b at_).1, vi .i64 (getNum b at_).2.1, vi .u16 (getNum b at_).2.2]), h) := by
  · refine call_P (fn := f13) rfl ?_
    simp only [f13]
    generalize hs0 : ([v, vi .i64 at_] ++ List.replicate _ VV.undef : List VV) = s
    have hs : s.length = 60 := by rw [← hs0]; rfl
    have h0 : s.getD 0 .undef = v := by rw [← hs0]; rfl
    have h1 : s.getD 1 .undef = vi .i64 at_ := by rw [← hs0]; rfl
    clear hs0
    simp only [X_skip, X_seq, X_reg, X_block, X_scope, X_exit, X_goto, X_ret, X_label, XO_mv, XO_g, XG_tt, XG_tf, XG_ft, XG_ff, XO_bin, XO_cvI, XO_pick, XO_ext, XO_len, XO_mnmx, XD_mv, XD_g, XGD_tt, XGD_tf, XGD_ft, XGD_ff, XD_bin, XD_cvI, XD_pick, XD_ext, XD_len, XD_mnmx, XD_mksl, XD_iadL, XD_ld, XD_fad, XD_nil, XWD_some, XVD_same, XVD_k, XO_alloc, XO_st, XD_st, XO_box, XO_mkslo, XD_mkslo, XO_mrk, XD_mrk, mr_0, XO_build, st_0_2, st_0_3, st_l_2, st_l_3, ld_l_2, ld_l_3, ld_r_2, ld_r_3, ld_l_at, Nat.zero_add, bd_nil, bd_2, bd_3, XD_build, XO_fld, XD_fld, XO_cvBS, XD_cvBS, bs_sl, bs_nil, XO_cvSB, XD_cvSB, sb_txt, XO_slL, XD_slL, Option.map_some, Option.map_none, XO_mksl, XO_iadL, XO_ld, XO_fad, ld_rptr, fd_r, fd_p, fd_e, List.drop_zero, List.drop_succ_cons, mkParts_nil, mkParts_cons, mkO_1, mkO_2, mk_agg2, mk_agg3, src_sl, mmO_min, mmO_max, XW_some, XV_some, ln_nil, ln_sl, ln_own, ln_str, cvO_eq, pkO_t, pkO_f, exO_eq, evalO_t, evalO_c, putD_some, putD_none, slot_len, slot_eq, slot_ne, ne_eq, Nat.reduceLT, Nat.reduceEqDiff, not_false_eq_true, not_true_eq_false, reduceCtorEq, XO_nil, RQ_0, RQ_0n, RQ_1, RQ_2, RQ_3, K_norm, K_exit, K_goto, K_ret, K_pan, B_norm, B_exit, B_goto, B_ret, B_pan, S_norm, S_exit, S_ret, S_pan, X_cnd, XB_true, XB_false, bin_add, bin_sub, bin_mul, bin_and, bin_or, bin_shr, bin_shl, bin_quo, bin_rem, Int.reduceLT, Int.reduceEq, bin_eql, bin_neq, bin_lss, bin_leq, bin_gtr, bin_geq, bin_seql, bin_sneq, decide_true, decide_false, eq_self, if_true, if_false, List.getElem?_cons_zero, List.getElem?_cons_succ]
    rw [X_eq f13_1.eq_1]
    simp only [X_skip, X_seq, X_reg, X_block, X_scope, X_exit, X_goto, X_ret, X_label, XO_mv, XO_g, XG_tt, XG_tf, XG_ft, XG_ff, XO_bin, XO_cvI, XO_pick, XO_ext, XO_len, XO_mnmx, XD_mv, XD_g, XGD_tt, XGD_tf, XGD_ft, XGD_ff, XD_bin, XD_cvI, XD_pick, XD_ext, XD_len, XD_mnmx, XD_mksl, XD_iadL, XD_ld, XD_fad, XD_nil, XWD_some, XVD_same, XVD_k, XO_alloc, XO_st, XD_st, XO_box, XO_mkslo, XD_mkslo, XO_mrk, XD_mrk, mr_0, XO_build, st_0_2, st_0_3, st_l_2, st_l_3, ld_l_2, ld_l_3, ld_r_2, ld_r_3, ld_l_at, Nat.zero_add, bd_nil, bd_2, bd_3, XD_build, XO_fld, XD_fld, XO_cvBS, XD_cvBS, bs_sl, bs_nil, XO_cvSB, XD_cvSB, sb_txt, XO_slL, XD_slL, Option.map_some, Option.map_none, XO_mksl, XO_iadL, XO_ld, XO_fad, ld_rptr, fd_r, fd_p, fd_e, List.drop_zero, List.drop_succ_cons, mkParts_nil, mkParts_cons, mkO_1, mkO_2, mk_agg2, mk_agg3, src_sl, mmO_min, mmO_max, XW_some, XV_some, ln_nil, ln_sl, ln_own, ln_str, cvO_eq, pkO_t, pkO_f, exO_eq, evalO_t, evalO_c, putD_some, putD_none, slot_len, slot_eq, slot_ne, ne_eq, Nat.reduceLT, Nat.reduceEqDiff, not_false_eq_true, not_true_eq_false, reduceCtorEq, XO_nil, RQ_0, RQ_0n, RQ_1, RQ_2, RQ_3, K_norm, K_exit, K_goto, K_ret, K_pan, B_norm, B_exit, B_goto, B_ret, B_pan, S_norm, S_exit, S_ret, S_pan, X_cnd, XB_true, XB_false, bin_add, bin_sub, bin_mul, bin_and, bin_or, bin_shr, bin_shl, bin_quo, bin_rem, Int.reduceLT, Int.reduceEq, bin_eql, bin_neq, bin_lss, bin_leq, bin_gtr, bin_geq, bin_seql, bin_sneq, decide_true, decide_false, eq_self, if_true, if_false, List.getElem?_cons_zero, List.getElem?_cons_succ, hs, h0, h1]
    have short : ∀ s', s'.length = 60 → getNum b at_ = (0, 0, 10) → S F f13_1 (RQ [.t 4, .t 5, .t 6] (Is (.tup [vi .i64 (getNum b at_).1, vi .i64 (getNum b at_).2.1, vi .u16 (getNum b at_).2.2]) h)) (.goto 0) ⟨s', h⟩ := by
      intro s' hs' e
      rw [S_goto rfl, XF_eq f13_1.eq_1, XF_seq2 rfl, XF_seq2 rfl, XF_seq2 rfl, XF_seq2 rfl, XF_seq2 rfl, XF_seq1 rfl, XF_label]
      simp only [X_skip, X_seq, X_reg, X_block, X_scope, X_exit, X_goto, X_ret, X_label, XO_mv, XO_g, XG_tt, XG_tf, XG_ft, XG_ff, XO_bin, XO_cvI, XO_pick, XO_ext, XO_len, XO_mnmx, XD_mv, XD_g, XGD_tt, XGD_tf, XGD_ft, XGD_ff, XD_bin, XD_cvI, XD_pick, XD_ext, XD_len, XD_mnmx, XD_mksl, XD_iadL, XD_ld, XD_fad, XD_nil, XWD_some, XVD_same, XVD_k, XO_alloc, XO_st, XD_st, XO_box, XO_mkslo, XD_mkslo, XO_mrk, XD_mrk, mr_0, XO_build, st_0_2, st_0_3, st_l_2, st_l_3, ld_l_2, ld_l_3, ld_r_2, ld_r_3, ld_l_at, Nat.zero_add, bd_nil, bd_2, bd_3, XD_build, XO_fld, XD_fld, XO_cvBS, XD_cvBS, bs_sl, bs_nil, XO_cvSB, XD_cvSB, sb_txt, XO_slL, XD_slL, Option.map_some, Option.map_none, XO_mksl, XO_iadL, XO_ld, XO_fad, ld_rptr, fd_r, fd_p, fd_e, List.drop_zero, List.drop_succ_cons, mkParts_nil, mkParts_cons, mkO_1, mkO_2, mk_agg2, mk_agg3, src_sl, mmO_min, mmO_max, XW_some, XV_some, ln_nil, ln_sl, ln_own, ln_str, cvO_eq, pkO_t, pkO_f, exO_eq, evalO_t, evalO_c, putD_some, putD_none, slot_len, slot_eq, slot_ne, ne_eq, Nat.reduceLT, Nat.reduceEqDiff, not_false_eq_true, not_true_eq_false, reduceCtorEq, XO_nil, RQ_0, RQ_0n, RQ_1, RQ_2, RQ_3, K_norm, K_exit, K_goto, K_ret, K_pan, B_norm, B_exit, B_goto, B_ret, B_pan, S_norm, S_exit, S_ret, S_pan, X_cnd, XB_true, XB_false, bin_add, bin_sub, bin_mul, bin_and, bin_or, bin_shr, bin_shl, bin_quo, bin_rem, Int.reduceLT, Int.reduceEq, bin_eql, bin_neq, bin_lss, bin_leq, bin_gtr, bin_geq, bin_seql, bin_sneq, decide_true, decide_false, eq_self, if_true, if_false, List.getElem?_cons_zero, List.getElem?_cons_succ, hs', e]
      exact ⟨rfl, rfl⟩
    have wrong : ∀ s', s'.length = 60 → getNum b at_ = (0, 0, 11) → S F f13_1 (RQ [.t 4, .t 5, .t 6] (Is (.tup [vi .i64 (getNum b at_).1, vi .i64 (getNum b at_).2.1, vi .u16 (getNum b at_).2.2]) h)) (.goto 1) ⟨s', h⟩ := by
      intro s' hs' e
      rw [S_goto rfl, XF_eq f13_1.eq_1, XF_seq2 rfl, XF_seq2 rfl, XF_seq2 rfl, XF_seq1 rfl, XF_label]
      simp only [X_skip, X_seq, X_reg, X_block, X_scope, X_exit, X_goto, X_ret, X_label, XO_mv, XO_g, XG_tt, XG_tf, XG_ft, XG_ff, XO_bin, XO_cvI, XO_pick, XO_ext, XO_len, XO_mnmx, XD_mv, XD_g, XGD_tt, XGD_tf, XGD_ft, XGD_ff, XD_bin, XD_cvI, XD_pick, XD_ext, XD_len, XD_mnmx, XD_mksl, XD_iadL, XD_ld, XD_fad, XD_nil, XWD_some, XVD_same, XVD_k, XO_alloc, XO_st, XD_st, XO_box, XO_mkslo, XD_mkslo, XO_mrk, XD_mrk, mr_0, XO_build, st_0_2, st_0_3, st_l_2, st_l_3, ld_l_2, ld_l_3, ld_r_2, ld_r_3, ld_l_at, Nat.zero_add, bd_nil, bd_2, bd_3, XD_build, XO_fld, XD_fld, XO_cvBS, XD_cvBS, bs_sl, bs_nil, XO_cvSB, XD_cvSB, sb_txt, XO_slL, XD_slL, Option.map_some, Option.map_none, XO_mksl, XO_iadL, XO_ld, XO_fad, ld_rptr, fd_r, fd_p, fd_e, List.drop_zero, List.drop_succ_cons, mkParts_nil, mkParts_cons, mkO_1, mkO_2, mk_agg2, mk_agg3, src_sl, mmO_min, mmO_max, XW_some, XV_some, ln_nil, ln_sl, ln_own, ln_str, cvO_eq, pkO_t, pkO_f, exO_eq, evalO_t, evalO_c, putD_some, putD_none, slot_len, slot_eq, slot_ne, ne_eq, Nat.reduceLT, Nat.reduceEqDiff, not_false_eq_true, not_true_eq_false, reduceCtorEq, XO_nil, RQ_0, RQ_0n, RQ_1, RQ_2, RQ_3, K_norm, K_exit, K_goto, K_ret, K_pan, B_norm, B_exit, B_goto, B_ret, B_pan, S_norm, S_exit, S_ret, S_pan, X_cnd, XB_true, XB_false, bin_add, bin_sub, bin_mul, bin_and, bin_or, bin_shr, bin_shl, bin_quo, bin_rem, Int.reduceLT, Int.reduceEq, bin_eql, bin_neq, bin_lss, bin_leq, bin_gtr, bin_geq, bin_seql, bin_sneq, decide_true, decide_false, eq_self, if_true, if_false, List.getElem?_cons_zero, List.getElem?_cons_succ, hs', e]
      exact ⟨rfl, rfl⟩
    by_cases c1 : at_ < 0
    · simp only [X_skip, X_seq, X_reg, X_block, X_scope, X_exit, X_goto, X_ret, X_label, XO_mv, XO_g, XG_tt, XG_tf, XG_ft, XG_ff, XO_bin, XO_cvI, XO_pick, XO_ext, XO_len, XO_mnmx, XD_mv, XD_g, XGD_tt, XGD_tf, XGD_ft, XGD_ff, XD_bin, XD_cvI, XD_pick, XD_ext, XD_len, XD_mnmx, XD_mksl, XD_iadL, XD_ld, XD_fad, XD_nil, XWD_some, XVD_same, XVD_k, XO_alloc, XO_st, XD_st, XO_box, XO_mkslo, XD_mkslo, XO_mrk, XD_mrk, mr_0, XO_build, st_0_2, st_0_3, st_l_2, st_l_3, ld_l_2, ld_l_3, ld_r_2, ld_r_3, ld_l_at, Nat.zero_add, bd_nil, bd_2, bd_3, XD_build, XO_fld, XD_fld, XO_cvBS, XD_cvBS, bs_sl, bs_nil, XO_cvSB, XD_cvSB, sb_txt, XO_slL, XD_slL, Option.map_some, Option.map_none, XO_mksl, XO_iadL, XO_ld, XO_fad, ld_rptr, fd_r, fd_p, fd_e, List.drop_zero, List.drop_succ_cons, mkParts_nil, mkParts_cons, mkO_1, mkO_2, mk_agg2, mk_agg3, src_sl, mmO_min, mmO_max, XW_some, XV_some, ln_nil, ln_sl, ln_own, ln_str, cvO_eq, pkO_t, pkO_f, exO_eq, evalO_t, evalO_c, putD_some, putD_none, slot_len, slot_eq, slot_ne, ne_eq, Nat.reduceLT, Nat.reduceEqDiff, not_false_eq_true, not_true_eq_false, reduceCtorEq, XO_nil, RQ_0, RQ_0n, RQ_1, RQ_2, RQ_3, K_norm, K_exit, K_goto, K_ret, K_pan, B_norm, B_exit, B_goto, B_ret, B_pan, S_norm, S_exit, S_ret, S_pan, X_cnd, XB_true, XB_false, bin_add, bin_sub, bin_mul, bin_and, bin_or, bin_shr, bin_shl, bin_quo, bin_rem, Int.reduceLT, Int.reduceEq, bin_eql, bin_neq, bin_lss, bin_leq, bin_gtr, bin_geq, bin_seql, bin_sneq, decide_true, decide_false, eq_self, if_true, if_false, List.getElem?_cons_zero, List.getElem?_cons_succ, hs, h0, h1, eq_true c1]
      exact short _ (by simp only [slot_len, hs]) (by unfold getNum; rw [if_pos (.inl c1)])
    · by_cases c2 : (b.length : Int) < at_
      · simp only [X_skip, X_seq, X_reg, X_block, X_scope, X_exit, X_goto, X_ret, X_label, XO_mv, XO_g, XG_tt, XG_tf, XG_ft, XG_ff, XO_bin, XO_cvI, XO_pick, XO_ext, XO_len, XO_mnmx, XD_mv, XD_g, XGD_tt, XGD_tf, XGD_ft, XGD_ff, XD_bin, XD_cvI, XD_pick, XD_ext, XD_len, XD_mnmx, XD_mksl, XD_iadL, XD_ld, XD_fad, XD_nil, XWD_some, XVD_same, XVD_k, XO_alloc, XO_st, XD_st, XO_box, XO_mkslo, XD_mkslo, XO_mrk, XD_mrk, mr_0, XO_build, st_0_2, st_0_3, st_l_2, st_l_3, ld_l_2, ld_l_3, ld_r_2, ld_r_3, ld_l_at, Nat.zero_add, bd_nil, bd_2, bd_3, XD_build, XO_fld, XD_fld, XO_cvBS, XD_cvBS, bs_sl, bs_nil, XO_cvSB, XD_cvSB, sb_txt, XO_slL, XD_slL, Option.map_some, Option.map_none, XO_mksl, XO_iadL, XO_ld, XO_fad, ld_rptr, fd_r, fd_p, fd_e, List.drop_zero, List.drop_succ_cons, mkParts_nil, mkParts_cons, mkO_1, mkO_2, mk_agg2, mk_agg3, src_sl, mmO_min, mmO_max, XW_some, XV_some, ln_nil, ln_sl, ln_own, ln_str, cvO_eq, pkO_t, pkO_f, exO_eq, evalO_t, evalO_c, putD_some, putD_none, slot_len, slot_eq, slot_ne, ne_eq, Nat.reduceLT, Nat.reduceEqDiff, not_false_eq_true, not_true_eq_false, reduceCtorEq, XO_nil, RQ_0, RQ_0n, RQ_1, RQ_2, RQ_3, K_norm, K_exit, K_goto, K_ret, K_pan, B_norm, B_exit, B_goto, B_ret, B_pan, S_norm, S_exit, S_ret, S_pan, X_cnd, XB_true, XB_false, bin_add, bin_sub, bin_mul, bin_and, bin_or, bin_shr, bin_shl, bin_quo, bin_rem, Int.reduceLT, Int.reduceEq, bin_eql, bin_neq, bin_lss, bin_leq, bin_gtr, bin_geq, bin_seql, bin_sneq, decide_true, decide_false, eq_self, if_true, if_false, List.getElem?_cons_zero, List.getElem?_cons_succ, hs, h0, h1, c1, eB_len, hv.ln, eq_true c2]
        exact short _ (by simp only [slot_len, hs]) (by unfold getNum; rw [if_pos (.inr c2)])
      · simp only [X_skip, X_seq, X_reg, X_block, X_scope, X_exit, X_goto, X_ret, X_label, XO_mv, XO_g, XG_tt, XG_tf, XG_ft, XG_ff, XO_bin, XO_cvI, XO_pick, XO_ext, XO_len, XO_mnmx, XD_mv, XD_g, XGD_tt, XGD_tf, XGD_ft, XGD_ff, XD_bin, XD_cvI, XD_pick, XD_ext, XD_len, XD_mnmx, XD_mksl, XD_iadL, XD_ld, XD_fad, XD_nil, XWD_some, XVD_same, XVD_k, XO_alloc, XO_st, XD_st, XO_box, XO_mkslo, XD_mkslo, XO_mrk, XD_mrk, mr_0, XO_build, st_0_2, st_0_3, st_l_2, st_l_3, ld_l_2, ld_l_3, ld_r_2, ld_r_3, ld_l_at, Nat.zero_add, bd_nil, bd_2, bd_3, XD_build, XO_fld, XD_fld, XO_cvBS, XD_cvBS, bs_sl, bs_nil, XO_cvSB, XD_cvSB, sb_txt, XO_slL, XD_slL, Option.map_some, Option.map_none, XO_mksl, XO_iadL, XO_ld, XO_fad, ld_rptr, fd_r, fd_p, fd_e, List.drop_zero, List.drop_succ_cons, mkParts_nil, mkParts_cons, mkO_1, mkO_2, mk_agg2, mk_agg3, src_sl, mmO_min, mmO_max, XW_some, XV_some, ln_nil, ln_sl, ln_own, ln_str, cvO_eq, pkO_t, pkO_f, exO_eq, evalO_t, evalO_c, putD_some, putD_none, slot_len, slot_eq, slot_ne, ne_eq, Nat.reduceLT, Nat.reduceEqDiff, not_false_eq_true, not_true_eq_false, reduceCtorEq, XO_nil, RQ_0, RQ_0n, RQ_1, RQ_2, RQ_3, K_norm, K_exit, K_goto, K_ret, K_pan, B_norm, B_exit, B_goto, B_ret, B_pan, S_norm, S_exit, S_ret, S_pan, X_cnd, XB_true, XB_false, bin_add, bin_sub, bin_mul, bin_and, bin_or, bin_shr, bin_shl, bin_quo, bin_rem, Int.reduceLT, Int.reduceEq, bin_eql, bin_neq, bin_lss, bin_leq, bin_gtr, bin_geq, bin_seql, bin_sneq, decide_true, decide_false, eq_self, if_true, if_false, List.getElem?_cons_zero, List.getElem?_cons_succ, hs, h0, h1, c1, eB_len, hv.ln, c2]
        have eg : getNum b at_ = getN 8 (b.drop at_.toNat) at_.toNat 0 0 := by unfold getNum; rw [if_neg (by omega)]
        obtain ⟨a, rfl⟩ : ∃ a : Nat, at_ = Int.ofNat a := Int.eq_ofNat_of_zero_le (show 0 ≤ at_ by omega)
        have c2' : ¬ (b.length : Int) < (a : Int) := c2
        refine f13_loop b v hv a h _ (by omega) hb 8 0 0 _ rfl (by decide) ?_ ?_ ?_ ?_ ?_ (by omega) ?_
        · simp only [slot_len, hs]
        · simp only [X_skip, X_seq, X_reg, X_block, X_scope, X_exit, X_goto, X_ret, X_label, XO_mv, XO_g, XG_tt, XG_tf, XG_ft, XG_ff, XO_bin, XO_cvI, XO_pick, XO_ext, XO_len, XO_mnmx, XD_mv, XD_g, XGD_tt, XGD_tf, XGD_ft, XGD_ff, XD_bin, XD_cvI, XD_pick, XD_ext, XD_len, XD_mnmx, XD_mksl, XD_iadL, XD_ld, XD_fad, XD_nil, XWD_some, XVD_same, XVD_k, XO_alloc, XO_st, XD_st, XO_box, XO_mkslo, XD_mkslo, XO_mrk, XD_mrk, mr_0, XO_build, st_0_2, st_0_3, st_l_2, st_l_3, ld_l_2, ld_l_3, ld_r_2, ld_r_3, ld_l_at, Nat.zero_add, bd_nil, bd_2, bd_3, XD_build, XO_fld, XD_fld, XO_cvBS, XD_cvBS, bs_sl, bs_nil, XO_cvSB, XD_cvSB, sb_txt, XO_slL, XD_slL, Option.map_some, Option.map_none, XO_mksl, XO_iadL, XO_ld, XO_fad, ld_rptr, fd_r, fd_p, fd_e, List.drop_zero, List.drop_succ_cons, mkParts_nil, mkParts_cons, mkO_1, mkO_2, mk_agg2, mk_agg3, src_sl, mmO_min, mmO_max, XW_some, XV_some, ln_nil, ln_sl, ln_own, ln_str, cvO_eq, pkO_t, pkO_f, exO_eq, evalO_t, evalO_c, putD_some, putD_none, slot_len, slot_eq, slot_ne, ne_eq, Nat.reduceLT, Nat.reduceEqDiff, not_false_eq_true, not_true_eq_false, reduceCtorEq, XO_nil, RQ_0, RQ_0n, RQ_1, RQ_2, RQ_3, K_norm, K_exit, K_goto, K_ret, K_pan, B_norm, B_exit, B_goto, B_ret, B_pan, S_norm, S_exit, S_ret, S_pan, X_cnd, XB_true, XB_false, bin_add, bin_sub, bin_mul, bin_and, bin_or, bin_shr, bin_shl, bin_quo, bin_rem, Int.reduceLT, Int.reduceEq, bin_eql, bin_neq, bin_lss, bin_leq, bin_gtr, bin_geq, bin_seql, bin_sneq, decide_true, decide_false, eq_self, if_true, if_false, List.getElem?_cons_zero, List.getElem?_cons_succ, hs, h0]
        · simp only [X_skip, X_seq, X_reg, X_block, X_scope, X_exit, X_goto, X_ret, X_label, XO_mv, XO_g, XG_tt, XG_tf, XG_ft, XG_ff, XO_bin, XO_cvI, XO_pick, XO_ext, XO_len, XO_mnmx, XD_mv, XD_g, XGD_tt, XGD_tf, XGD_ft, XGD_ff, XD_bin, XD_cvI, XD_pick, XD_ext, XD_len, XD_mnmx, XD_mksl, XD_iadL, XD_ld, XD_fad, XD_nil, XWD_some, XVD_same, XVD_k, XO_alloc, XO_st, XD_st, XO_box, XO_mkslo, XD_mkslo, XO_mrk, XD_mrk, mr_0, XO_build, st_0_2, st_0_3, st_l_2, st_l_3, ld_l_2, ld_l_3, ld_r_2, ld_r_3, ld_l_at, Nat.zero_add, bd_nil, bd_2, bd_3, XD_build, XO_fld, XD_fld, XO_cvBS, XD_cvBS, bs_sl, bs_nil, XO_cvSB, XD_cvSB, sb_txt, XO_slL, XD_slL, Option.map_some, Option.map_none, XO_mksl, XO_iadL, XO_ld, XO_fad, ld_rptr, fd_r, fd_p, fd_e, List.drop_zero, List.drop_succ_cons, mkParts_nil, mkParts_cons, mkO_1, mkO_2, mk_agg2, mk_agg3, src_sl, mmO_min, mmO_max, XW_some, XV_some, ln_nil, ln_sl, ln_own, ln_str, cvO_eq, pkO_t, pkO_f, exO_eq, evalO_t, evalO_c, putD_some, putD_none, slot_len, slot_eq, slot_ne, ne_eq, Nat.reduceLT, Nat.reduceEqDiff, not_false_eq_true, not_true_eq_false, reduceCtorEq, XO_nil, RQ_0, RQ_0n, RQ_1, RQ_2, RQ_3, K_norm, K_exit, K_goto, K_ret, K_pan, B_norm, B_exit, B_goto, B_ret, B_pan, S_norm, S_exit, S_ret, S_pan, X_cnd, XB_true, XB_false, bin_add, bin_sub, bin_mul, bin_and, bin_or, bin_shr, bin_shl, bin_quo, bin_rem, Int.reduceLT, Int.reduceEq, bin_eql, bin_neq, bin_lss, bin_leq, bin_gtr, bin_geq, bin_seql, bin_sneq, decide_true, decide_false, eq_self, if_true, if_false, List.getElem?_cons_zero, List.getElem?_cons_succ, hs, h1]; rfl
        · simp only [X_skip, X_seq, X_reg, X_block, X_scope, X_exit, X_goto, X_ret, X_label, XO_mv, XO_g, XG_tt, XG_tf, XG_ft, XG_ff, XO_bin, XO_cvI, XO_pick, XO_ext, XO_len, XO_mnmx, XD_mv, XD_g, XGD_tt, XGD_tf, XGD_ft, XGD_ff, XD_bin, XD_cvI, XD_pick, XD_ext, XD_len, XD_mnmx, XD_mksl, XD_iadL, XD_ld, XD_fad, XD_nil, XWD_some, XVD_same, XVD_k, XO_alloc, XO_st, XD_st, XO_box, XO_mkslo, XD_mkslo, XO_mrk, XD_mrk, mr_0, XO_build, st_0_2, st_0_3, st_l_2, st_l_3, ld_l_2, ld_l_3, ld_r_2, ld_r_3, ld_l_at, Nat.zero_add, bd_nil, bd_2, bd_3, XD_build, XO_fld, XD_fld, XO_cvBS, XD_cvBS, bs_sl, bs_nil, XO_cvSB, XD_cvSB, sb_txt, XO_slL, XD_slL, Option.map_some, Option.map_none, XO_mksl, XO_iadL, XO_ld, XO_fad, ld_rptr, fd_r, fd_p, fd_e, List.drop_zero, List.drop_succ_cons, mkParts_nil, mkParts_cons, mkO_1, mkO_2, mk_agg2, mk_agg3, src_sl, mmO_min, mmO_max, XW_some, XV_some, ln_nil, ln_sl, ln_own, ln_str, cvO_eq, pkO_t, pkO_f, exO_eq, evalO_t, evalO_c, putD_some, putD_none, slot_len, slot_eq, slot_ne, ne_eq, Nat.reduceLT, Nat.reduceEqDiff, not_false_eq_true, not_true_eq_false, reduceCtorEq, XO_nil, RQ_0, RQ_0n, RQ_1, RQ_2, RQ_3, K_norm, K_exit, K_goto, K_ret, K_pan, B_norm, B_exit, B_goto, B_ret, B_pan, S_norm, S_exit, S_ret, S_pan, X_cnd, XB_true, XB_false, bin_add, bin_sub, bin_mul, bin_and, bin_or, bin_shr, bin_shl, bin_quo, bin_rem, Int.reduceLT, Int.reduceEq, bin_eql, bin_neq, bin_lss, bin_leq, bin_gtr, bin_geq, bin_seql, bin_sneq, decide_true, decide_false, eq_self, if_true, if_false, List.getElem?_cons_zero, List.getElem?_cons_succ, hs]; rfl
        · simp only [X_skip, X_seq, X_reg, X_block, X_scope, X_exit, X_goto, X_ret, X_label, XO_mv, XO_g, XG_tt, XG_tf, XG_ft, XG_ff, XO_bin, XO_cvI, XO_pick, XO_ext, XO_len, XO_mnmx, XD_mv, XD_g, XGD_tt, XGD_tf, XGD_ft, XGD_ff, XD_bin, XD_cvI, XD_pick, XD_ext, XD_len, XD_mnmx, XD_mksl, XD_iadL, XD_ld, XD_fad, XD_nil, XWD_some, XVD_same, XVD_k, XO_alloc, XO_st, XD_st, XO_box, XO_mkslo, XD_mkslo, XO_mrk, XD_mrk, mr_0, XO_build, st_0_2, st_0_3, st_l_2, st_l_3, ld_l_2, ld_l_3, ld_r_2, ld_r_3, ld_l_at, Nat.zero_add, bd_nil, bd_2, bd_3, XD_build, XO_fld, XD_fld, XO_cvBS, XD_cvBS, bs_sl, bs_nil, XO_cvSB, XD_cvSB, sb_txt, XO_slL, XD_slL, Option.map_some, Option.map_none, XO_mksl, XO_iadL, XO_ld, XO_fad, ld_rptr, fd_r, fd_p, fd_e, List.drop_zero, List.drop_succ_cons, mkParts_nil, mkParts_cons, mkO_1, mkO_2, mk_agg2, mk_agg3, src_sl, mmO_min, mmO_max, XW_some, XV_some, ln_nil, ln_sl, ln_own, ln_str, cvO_eq, pkO_t, pkO_f, exO_eq, evalO_t, evalO_c, putD_some, putD_none, slot_len, slot_eq, slot_ne, ne_eq, Nat.reduceLT, Nat.reduceEqDiff, not_false_eq_true, not_true_eq_false, reduceCtorEq, XO_nil, RQ_0, RQ_0n, RQ_1, RQ_2, RQ_3, K_norm, K_exit, K_goto, K_ret, K_pan, B_norm, B_exit, B_goto, B_ret, B_pan, S_norm, S_exit, S_ret, S_pan, X_cnd, XB_true, XB_false, bin_add, bin_sub, bin_mul, bin_and, bin_or, bin_shr, bin_shl, bin_quo, bin_rem, Int.reduceLT, Int.reduceEq, bin_eql, bin_neq, bin_lss, bin_leq, bin_gtr, bin_geq, bin_seql, bin_sneq, decide_true, decide_false, eq_self, if_true, if_false, List.getElem?_cons_zero, List.getElem?_cons_succ, hs]; rfl
        · intro o s' hs' hg
          rw [Nat.add_zero] at hg
          rw [show getN 8 (b.drop a) a 0 0 = getNum b (Int.ofNat a) from eg.symm] at hg
          rcases hg with ⟨e, rfl | rfl⟩ | ⟨e, rfl⟩ | ⟨m, j, e, rfl, a1, a2, a3⟩
          · simp only [X_skip, X_seq, X_reg, X_block, X_scope, X_exit, X_goto, X_ret, X_label, XO_mv, XO_g, XG_tt, XG_tf, XG_ft, XG_ff, XO_bin, XO_cvI, XO_pick, XO_ext, XO_len, XO_mnmx, XD_mv, XD_g, XGD_tt, XGD_tf, XGD_ft, XGD_ff, XD_bin, XD_cvI, XD_pick, XD_ext, XD_len, XD_mnmx, XD_mksl, XD_iadL, XD_ld, XD_fad, XD_nil, XWD_some, XVD_same, XVD_k, XO_alloc, XO_st, XD_st, XO_box, XO_mkslo, XD_mkslo, XO_mrk, XD_mrk, mr_0, XO_build, st_0_2, st_0_3, st_l_2, st_l_3, ld_l_2, ld_l_3, ld_r_2, ld_r_3, ld_l_at, Nat.zero_add, bd_nil, bd_2, bd_3, XD_build, XO_fld, XD_fld, XO_cvBS, XD_cvBS, bs_sl, bs_nil, XO_cvSB, XD_cvSB, sb_txt, XO_slL, XD_slL, Option.map_some, Option.map_none, XO_mksl, XO_iadL, XO_ld, XO_fad, ld_rptr, fd_r, fd_p, fd_e, List.drop_zero, List.drop_succ_cons, mkParts_nil, mkParts_cons, mkO_1, mkO_2, mk_agg2, mk_agg3, src_sl, mmO_min, mmO_max, XW_some, XV_some, ln_nil, ln_sl, ln_own, ln_str, cvO_eq, pkO_t, pkO_f, exO_eq, evalO_t, evalO_c, putD_some, putD_none, slot_len, slot_eq, slot_ne, ne_eq, Nat.reduceLT, Nat.reduceEqDiff, not_false_eq_true, not_true_eq_false, reduceCtorEq, XO_nil, RQ_0, RQ_0n, RQ_1, RQ_2, RQ_3, K_norm, K_exit, K_goto, K_ret, K_pan, B_norm, B_exit, B_goto, B_ret, B_pan, S_norm, S_exit, S_ret, S_pan, X_cnd, XB_true, XB_false, bin_add, bin_sub, bin_mul, bin_and, bin_or, bin_shr, bin_shl, bin_quo, bin_rem, Int.reduceLT, Int.reduceEq, bin_eql, bin_neq, bin_lss, bin_leq, bin_gtr, bin_geq, bin_seql, bin_sneq, decide_true, decide_false, eq_self, if_true, if_false, List.getElem?_cons_zero, List.getElem?_cons_succ, hs', e]
            exact ⟨rfl, rfl⟩
          · simp only [X_skip, X_seq, X_reg, X_block, X_scope, X_exit, X_goto, X_ret, X_label, XO_mv, XO_g, XG_tt, XG_tf, XG_ft, XG_ff, XO_bin, XO_cvI, XO_pick, XO_ext, XO_len, XO_mnmx, XD_mv, XD_g, XGD_tt, XGD_tf, XGD_ft, XGD_ff, XD_bin, XD_cvI, XD_pick, XD_ext, XD_len, XD_mnmx, XD_mksl, XD_iadL, XD_ld, XD_fad, XD_nil, XWD_some, XVD_same, XVD_k, XO_alloc, XO_st, XD_st, XO_box, XO_mkslo, XD_mkslo, XO_mrk, XD_mrk, mr_0, XO_build, st_0_2, st_0_3, st_l_2, st_l_3, ld_l_2, ld_l_3, ld_r_2, ld_r_3, ld_l_at, Nat.zero_add, bd_nil, bd_2, bd_3, XD_build, XO_fld, XD_fld, XO_cvBS, XD_cvBS, bs_sl, bs_nil, XO_cvSB, XD_cvSB, sb_txt, XO_slL, XD_slL, Option.map_some, Option.map_none, XO_mksl, XO_iadL, XO_ld, XO_fad, ld_rptr, fd_r, fd_p, fd_e, List.drop_zero, List.drop_succ_cons, mkParts_nil, mkParts_cons, mkO_1, mkO_2, mk_agg2, mk_agg3, src_sl, mmO_min, mmO_max, XW_some, XV_some, ln_nil, ln_sl, ln_own, ln_str, cvO_eq, pkO_t, pkO_f, exO_eq, evalO_t, evalO_c, putD_some, putD_none, slot_len, slot_eq, slot_ne, ne_eq, Nat.reduceLT, Nat.reduceEqDiff, not_false_eq_true, not_true_eq_false, reduceCtorEq, XO_nil, RQ_0, RQ_0n, RQ_1, RQ_2, RQ_3, K_norm, K_exit, K_goto, K_ret, K_pan, B_norm, B_exit, B_goto, B_ret, B_pan, S_norm, S_exit, S_ret, S_pan, X_cnd, XB_true, XB_false, bin_add, bin_sub, bin_mul, bin_and, bin_or, bin_shr, bin_shl, bin_quo, bin_rem, Int.reduceLT, Int.reduceEq, bin_eql, bin_neq, bin_lss, bin_leq, bin_gtr, bin_geq, bin_seql, bin_sneq, decide_true, decide_false, eq_self, if_true, if_false, List.getElem?_cons_zero, List.getElem?_cons_succ]
            exact wrong s' hs' e
          · simp only [X_skip, X_seq, X_reg, X_block, X_scope, X_exit, X_goto, X_ret, X_label, XO_mv, XO_g, XG_tt, XG_tf, XG_ft, XG_ff, XO_bin, XO_cvI, XO_pick, XO_ext, XO_len, XO_mnmx, XD_mv, XD_g, XGD_tt, XGD_tf, XGD_ft, XGD_ff, XD_bin, XD_cvI, XD_pick, XD_ext, XD_len, XD_mnmx, XD_mksl, XD_iadL, XD_ld, XD_fad, XD_nil, XWD_some, XVD_same, XVD_k, XO_alloc, XO_st, XD_st, XO_box, XO_mkslo, XD_mkslo, XO_mrk, XD_mrk, mr_0, XO_build, st_0_2, st_0_3, st_l_2, st_l_3, ld_l_2, ld_l_3, ld_r_2, ld_r_3, ld_l_at, Nat.zero_add, bd_nil, bd_2, bd_3, XD_build, XO_fld, XD_fld, XO_cvBS, XD_cvBS, bs_sl, bs_nil, XO_cvSB, XD_cvSB, sb_txt, XO_slL, XD_slL, Option.map_some, Option.map_none, XO_mksl, XO_iadL, XO_ld, XO_fad, ld_rptr, fd_r, fd_p, fd_e, List.drop_zero, List.drop_succ_cons, mkParts_nil, mkParts_cons, mkO_1, mkO_2, mk_agg2, mk_agg3, src_sl, mmO_min, mmO_max, XW_some, XV_some, ln_nil, ln_sl, ln_own, ln_str, cvO_eq, pkO_t, pkO_f, exO_eq, evalO_t, evalO_c, putD_some, putD_none, slot_len, slot_eq, slot_ne, ne_eq, Nat.reduceLT, Nat.reduceEqDiff, not_false_eq_true, not_true_eq_false, reduceCtorEq, XO_nil, RQ_0, RQ_0n, RQ_1, RQ_2, RQ_3, K_norm, K_exit, K_goto, K_ret, K_pan, B_norm, B_exit, B_goto, B_ret, B_pan, S_norm, S_exit, S_ret, S_pan, X_cnd, XB_true, XB_false, bin_add, bin_sub, bin_mul, bin_and, bin_or, bin_shr, bin_shl, bin_quo, bin_rem, Int.reduceLT, Int.reduceEq, bin_eql, bin_neq, bin_lss, bin_leq, bin_gtr, bin_geq, bin_seql, bin_sneq, decide_true, decide_false, eq_self, if_true, if_false, List.getElem?_cons_zero, List.getElem?_cons_succ]
            exact short s' hs' e
          · simp only [X_skip, X_seq, X_reg, X_block, X_scope, X_exit, X_goto, X_ret, X_label, XO_mv, XO_g, XG_tt, XG_tf, XG_ft, XG_ff, XO_bin, XO_cvI, XO_pick, XO_ext, XO_len, XO_mnmx, XD_mv, XD_g, XGD_tt, XGD_tf, XGD_ft, XGD_ff, XD_bin, XD_cvI, XD_pick, XD_ext, XD_len, XD_mnmx, XD_mksl, XD_iadL, XD_ld, XD_fad, XD_nil, XWD_some, XVD_same, XVD_k, XO_alloc, XO_st, XD_st, XO_box, XO_mkslo, XD_mkslo, XO_mrk, XD_mrk, mr_0, XO_build, st_0_2, st_0_3, st_l_2, st_l_3, ld_l_2, ld_l_3, ld_r_2, ld_r_3, ld_l_at, Nat.zero_add, bd_nil, bd_2, bd_3, XD_build, XO_fld, XD_fld, XO_cvBS, XD_cvBS, bs_sl, bs_nil, XO_cvSB, XD_cvSB, sb_txt, XO_slL, XD_slL, Option.map_some, Option.map_none, XO_mksl, XO_iadL, XO_ld, XO_fad, ld_rptr, fd_r, fd_p, fd_e, List.drop_zero, List.drop_succ_cons, mkParts_nil, mkParts_cons, mkO_1, mkO_2, mk_agg2, mk_agg3, src_sl, mmO_min, mmO_max, XW_some, XV_some, ln_nil, ln_sl, ln_own, ln_str, cvO_eq, pkO_t, pkO_f, exO_eq, evalO_t, evalO_c, putD_some, putD_none, slot_len, slot_eq, slot_ne, ne_eq, Nat.reduceLT, Nat.reduceEqDiff, not_false_eq_true, not_true_eq_false, reduceCtorEq, XO_nil, RQ_0, RQ_0n, RQ_1, RQ_2, RQ_3, K_norm, K_exit, K_goto, K_ret, K_pan, B_norm, B_exit, B_goto, B_ret, B_pan, S_norm, S_exit, S_ret, S_pan, X_cnd, XB_true, XB_false, bin_add, bin_sub, bin_mul, bin_and, bin_or, bin_shr, bin_shl, bin_quo, bin_rem, Int.reduceLT, Int.reduceEq, bin_eql, bin_neq, bin_lss, bin_leq, bin_gtr, bin_geq, bin_seql, bin_sneq, decide_true, decide_false, eq_self, if_true, if_false, List.getElem?_cons_zero, List.getElem?_cons_succ, hs', e, a1, a2, a3]
            exact ⟨rfl, rfl⟩

end Go.V01

set_option linter.unusedSimpArgs false
namespace Go.V01
open Go Go.Vm

theorem getN_bound : ∀ k r at_ i n, (getN k r at_ i n).1 ≤ 9007199254740992 ∧ ((getN k r at_ i n).2.2 = 0 → at_ + i < (getN k r at_ i n).2.1 ∧ (getN k r at_ i n).2.1 ≤ at_ + i + r.length) ∧ (getN k r at_ i n).2.2 ≤ 11
  | 0, _, _, _, _ => by simp [getN]
  | k + 1, [], _, _, _ => by simp [getN]
  | k + 1, c :: r, at_, i, n => by
    simp only [getN, List.length_cons]
    split
    · split
      · simp
      · refine ⟨by simp only; omega, fun _ => ⟨by simp only; omega, by simp only; omega⟩, by simp⟩
    · have := getN_bound k r at_ (i + 1) (n + c.toNat % 128 * 128 ^ i)
      refine ⟨this.1, fun e => ?_, this.2.2⟩
      have := this.2.1 e
      omega

theorem getNum_bound (b : List UInt8) (a : Int) : (getNum b a).1 ≤ 9007199254740992 ∧ ((getNum b a).2.2 = 0 → 0 ≤ a ∧ a < ((getNum b a).2.1 : Int) ∧ (getNum b a).2.1 ≤ b.length) ∧ (getNum b a).2.2 ≤ 11 := by
  unfold getNum
  split
  · simp
  · have := getN_bound 8 (b.drop a.toNat) a.toNat 0 0
    refine ⟨this.1, fun e => ?_, this.2.2⟩
    have := this.2.1 e
    rw [List.length_drop] at this
    omega

/-- A text, from its bytes. -/
def getText (b : List UInt8) (a most : Int) : List UInt8 × Nat × Nat :=
  if (getNum b a).2.2 ≠ 0 then ([], 0, (getNum b a).2.2) else
  if most < ((getNum b a).1 : Int) then ([], 0, 3) else
  if (b.length : Int) - ((getNum b a).2.1 : Int) < ((getNum b a).1 : Int) then ([], 0, 10) else
  ((b.drop (getNum b a).2.1).take (getNum b a).1, (getNum b a).2.1 + (getNum b a).1, 0)

theorem text_f15 (b : List UInt8) (v : VV) (hv : SlV 1 (eB b) v) (a most : Int) (h : Heap) (hb : b.length ≤ 1000000000) :
    call F 15 [v, vi .i64 a, vi .i64 most] h = some (.ret (.tup [txt (getText b a most).1, vi .i64 (getText b a most).2.1, vi .u16 (getText b a most).2.2]), h) := by
  refine call_P (fn := f15) rfl ?_
  simp only [f15]
  generalize hs0 : ([v, vi .i64 a, vi .i64 most] ++ List.replicate _ VV.undef : List VV) = s
  have hs : s.length = 44 := by rw [← hs0]; rfl
  have h0 : s.getD 0 .undef = v := by rw [← hs0]; rfl
  have h1 : s.getD 1 .undef = vi .i64 a := by rw [← hs0]; rfl
  have h2 : s.getD 2 .undef = vi .i64 most := by rw [← hs0]; rfl
  clear hs0
  simp only [go_sem, Nat.reduceLT, Nat.reduceEqDiff, reduceCtorEq, Int.reduceLT, Int.reduceEq, hs, h0, h1, h2]
  refine XO_callP (by simp only [List.map, go_sem, Nat.reduceLT, Nat.reduceEqDiff, reduceCtorEq, Int.reduceLT, Int.reduceEq, hs]; exact hv.clos (clos_cv clos_nil)) (num_f13 b v hv a [] hb) rfl ?_
  have hbd := getNum_bound b a
  unfold getText
  generalize getNum b a = x at hbd ⊢
  obtain ⟨n, j, e⟩ := x
  simp only [go_sem, Nat.reduceLT, Nat.reduceEqDiff, reduceCtorEq, Int.reduceLT, Int.reduceEq, hs, h0, h1, h2] at hbd ⊢
  by_cases c1 : (e : Int) = 0
  · have c1' : e = 0 := by omega
    subst c1'
    have hb1 := hbd.2.1 rfl
    have e1 : IntKind.i64.wrap ((b.length : Int) - (j : Int)) = (b.length : Int) - (j : Int) := IntWalk.i64_in _ (by omega)
    by_cases c2 : most < (n : Int)
    · simp only [go_sem, Nat.reduceLT, Nat.reduceEqDiff, reduceCtorEq, Int.reduceLT, Int.reduceEq, hs, h0, h1, h2, eq_true c1, c2]
      exact Is.refl _ _
    · by_cases c3 : (b.length : Int) - (j : Int) < (n : Int)
      · simp only [go_sem, Nat.reduceLT, Nat.reduceEqDiff, reduceCtorEq, Int.reduceLT, Int.reduceEq, hs, h0, h1, h2, eq_true c1, c2, eB_len, hv.ln, e1, c3]
        exact Is.refl _ _
      · have e2 : IntKind.i64.wrap ((j : Int) + (n : Int)) = ((j + n : Nat) : Int) := by rw [IntWalk.i64_in _ (by omega)]; omega
        simp only [go_sem, Nat.reduceLT, Nat.reduceEqDiff, reduceCtorEq, Int.reduceLT, Int.reduceEq, hs, h0, h1, h2, eq_true c1, c2, eB_len, hv.ln, e1, e2, c3]
        obtain ⟨v', hv', e3⟩ := hv.part (h := h) (k := .i64) (k' := .i64) (a := (j : Int)) (b := ((j + n : Nat) : Int)) (by omega) (by omega) (by rw [eB_len]; omega)
        rw [eB_part] at hv'
        have e4 : (((j + n : Nat) : Int).toNat - (j : Int).toNat) = n := by omega
        rw [e4] at hv'
        rw [e3]
        simp only [go_sem, Nat.reduceLT, Nat.reduceEqDiff, reduceCtorEq, Int.reduceLT, Int.reduceEq, hs, e2, hv'.bs]
        exact Is.refl _ _
  · have c1' : ¬ e = 0 := by omega
    simp only [go_sem, Nat.reduceLT, Nat.reduceEqDiff, reduceCtorEq, Int.reduceLT, Int.reduceEq, hs, h0, h1, h2, c1, c1']
    exact Is.refl _ _

def row0 : List CV := [.sc (.string ⟨#[]⟩), .sc (.slice none 0 0)]
def rowC (k v : List UInt8) : List CV := [.sc (.string ⟨k.toArray⟩), .sl 1 (eB v) false]

/-- A row, from its bytes. -/
def getRow (b : List UInt8) (a : Int) : List CV × Nat × Nat :=
  if (getText b a 30).2.2 ≠ 0 then (row0, 0, (getText b a 30).2.2) else
  (rowC (getText b a 30).1 (getText b (getText b a 30).2.1 150).1, (getText b (getText b a 30).2.1 150).2.1, (getText b (getText b a 30).2.1 150).2.2)

theorem clos_tup3 {h : Heap} {c1 c2 c3 : CV} : closRes h (.tup [.cv c1, .cv c2, .cv c3]) = some (.tup [.cv c1, .cv c2, .cv c3]) := rfl

def ValIs (v : VV) (v' : VV) (_ : Heap) : Prop := v' = v

theorem row_f33 (b : List UInt8) (v : VV) (hv : SlV 1 (eB b) v) (a : Int) (hb : b.length ≤ 1000000000) :
    ∃ w h', call F 33 [v, vi .i64 a] [] = some (.ret w, h') ∧ ValIs (.tup [.agg ((getRow b a).1.map .cv), vi .i64 (getRow b a).2.1, vi .u16 (getRow b a).2.2]) w h' := by
  refine call_E (fn := f33) rfl ?_
  simp only [f33]
  generalize hs0 : ([v, vi .i64 a] ++ List.replicate _ VV.undef : List VV) = s
  have hs : s.length = 34 := by rw [← hs0]; rfl
  have h0 : s.getD 0 .undef = v := by rw [← hs0]; rfl
  have h1 : s.getD 1 .undef = vi .i64 a := by rw [← hs0]; rfl
  clear hs0
  simp only [go_sem, Nat.reduceLT, Nat.reduceEqDiff, reduceCtorEq, Int.reduceLT, Int.reduceEq, hs, h0, h1, List.nil_append, List.length_nil]
  refine XO_callP (by simp only [List.map, go_sem, Nat.reduceLT, Nat.reduceEqDiff, reduceCtorEq, Int.reduceLT, Int.reduceEq, hs]; exact hv.clos (clos_cv (clos_cv clos_nil))) (text_f15 b v hv a 30 [] hb) clos_tup3 ?_
  unfold getRow
  generalize getText b a 30 = x
  obtain ⟨k, j, e⟩ := x
  simp only [go_sem, Nat.reduceLT, Nat.reduceEqDiff, reduceCtorEq, Int.reduceLT, Int.reduceEq, hs, h0, h1]
  by_cases c1 : (e : Int) = 0
  · have c1' : e = 0 := by omega
    subst c1'
    simp only [go_sem, Nat.reduceLT, Nat.reduceEqDiff, reduceCtorEq, Int.reduceLT, Int.reduceEq, hs, h0, h1, eq_true c1]
    refine XO_callP (by simp only [List.map, go_sem, Nat.reduceLT, Nat.reduceEqDiff, reduceCtorEq, Int.reduceLT, Int.reduceEq, hs]; exact hv.clos (clos_cv (clos_cv clos_nil))) (text_f15 b v hv j 150 [] hb) clos_tup3 ?_
    generalize getText b j 150 = y
    obtain ⟨u, j2, e2⟩ := y
    simp only [go_sem, Nat.reduceLT, Nat.reduceEqDiff, reduceCtorEq, Int.reduceLT, Int.reduceEq, hs, h0, h1]
    refine RQ_c2 (id := 0) (by simp only [go_sem, Nat.reduceLT, Nat.reduceEqDiff, reduceCtorEq, Int.reduceLT, Int.reduceEq, hs]) rfl rfl (by simp only [go_sem, Nat.reduceLT, Nat.reduceEqDiff, reduceCtorEq, Int.reduceLT, Int.reduceEq, hs]) (by simp only [go_sem, Nat.reduceLT, Nat.reduceEqDiff, reduceCtorEq, Int.reduceLT, Int.reduceEq, hs]) ?_
    simp only [go_sem, Nat.reduceLT, Nat.reduceEqDiff, reduceCtorEq, Int.reduceLT, Int.reduceEq, hs]
    rfl
  · have c1' : ¬ e = 0 := by omega
    simp only [go_sem, Nat.reduceLT, Nat.reduceEqDiff, reduceCtorEq, Int.reduceLT, Int.reduceEq, hs, h0, h1, c1, c1']
    refine RQ_c2 (id := 0) (by simp only [go_sem, Nat.reduceLT, Nat.reduceEqDiff, reduceCtorEq, Int.reduceLT, Int.reduceEq, hs]) rfl rfl (by simp only [go_sem, Nat.reduceLT, Nat.reduceEqDiff, reduceCtorEq, Int.reduceLT, Int.reduceEq, hs]) (by simp only [go_sem, Nat.reduceLT, Nat.reduceEqDiff, reduceCtorEq, Int.reduceLT, Int.reduceEq, hs]) ?_
    simp only [go_sem, Nat.reduceLT, Nat.reduceEqDiff, reduceCtorEq, Int.reduceLT, Int.reduceEq, hs]
    rfl

end Go.V01

set_option linter.unusedSimpArgs false
namespace Go.V01
open Go Go.Vm

/-- So many, each by 'get'. -/
def wholeF (get : Int → List CV × Nat × Nat) : Nat → Nat → List (List CV) → List (List CV) × Nat × Nat
  | 0, a, out => (out, a, 0)
  | n + 1, a, out => if (get a).2.2 ≠ 0 then (out, (get a).2.1, (get a).2.2) else wholeF get n (get a).2.1 (out ++ [(get a).1])

/-- What there is of all bytes: the elements; the error. -/
def wholeB (get : Int → List CV × Nat × Nat) (b : List UInt8) : List (List CV) × Nat :=
  let x := getNum b 0
  if x.2.2 ≠ 0 then ([], x.2.2) else
  if 5000 < x.1 then ([], 3) else
  let y := wholeF get x.1 x.2.1 []
  if y.2.2 ≠ 0 then ([], y.2.2) else
  if y.2.1 < b.length then ([], 11) else (y.1, 0)

theorem getRow_two (b : List UInt8) (a : Int) : ∃ u w, (getRow b a).1 = [u, w] := by
  unfold getRow
  split
  · exact ⟨_, _, rfl⟩
  · exact ⟨_, _, rfl⟩

theorem clos_row {h : Heap} {u w c1 c2 : CV} : closRes h (.tup [.agg [.cv u, .cv w], .cv c1, .cv c2]) = some (.tup [.agg [.cv u, .cv w], .cv c1, .cv c2]) := rfl

theorem f32_end (e : Nat) (s : List VV) (h : Heap) (Q : Pst) (hs : s.length = 55) (h9 : s.getD 9 .undef = vi .u16 e) (he : e ≠ 0)
    (hQ : ∀ s', s'.length = 55 → (∀ i, i < 10 → s'.getD i .undef = s.getD i .undef) → Q (.exit 0) ⟨s', h⟩) : X F (.loop f32_0) ⟨s, h⟩ Q := by
  rw [X_loop, X_eq f32_0.eq_1]
  have he' : ¬ (e : Int) = 0 := by omega
  simp only [go_sem, Nat.reduceLT, Nat.reduceEqDiff, reduceCtorEq, Int.reduceLT, Int.reduceEq, hs, h9, he']
  refine hQ _ (by simp only [slot_len, hs]) (fun i hi => ?_)
  have : ∀ j, 10 ≤ j → j ≠ i := by omega
  rw [slot_ne (this _ (by decide)), slot_ne (this _ (by decide)), slot_ne (this _ (by decide)), slot_ne (this _ (by decide)), slot_ne (this _ (by decide)), slot_ne (this _ (by decide))]

theorem f32_loop (b : List UInt8) (vb_ : VV) (hv : SlV 1 (eB b) vb_) (hb : b.length ≤ 1000000000) : ∀ (n a : Nat) (out : List (List CV)) (s : List VV) (h : Heap) (v : VV) (Q : Pst), out.length + n ≤ 5000 → s.length = 55 →
    s.getD 0 .undef = vb_ → s.getD 1 .undef = .func 33 [] → s.getD 6 .undef = v → s.getD 7 .undef = vi .i64 n → s.getD 8 .undef = vi .i64 a → s.getD 9 .undef = vi .u16 0 → BufG h 2 out v →
    (∀ s' h' v', s'.length = 55 → s'.getD 0 .undef = vb_ → s'.getD 6 .undef = v' → BufG h' 2 (wholeF (getRow b) n a out).1 v' →
      s'.getD 8 .undef = vi .i64 (wholeF (getRow b) n a out).2.1 → s'.getD 9 .undef = vi .u16 (wholeF (getRow b) n a out).2.2 → Q (.exit 0) ⟨s', h'⟩) →
    X F (.loop f32_0) ⟨s, h⟩ Q := by
  intro n
  induction n with
  | zero =>
    intro a out s h v Q hn hs h0 h1 h6 h7 h8 h9 hbuf hQ
    rw [X_loop, X_eq f32_0.eq_1]
    have hn0 : ¬ (0 : Int) < ((0 : Nat) : Int) := by decide
    simp only [go_sem, Nat.reduceLT, Nat.reduceEqDiff, reduceCtorEq, Int.reduceLT, Int.reduceEq, hs, h7, h9, hn0]
    exact hQ _ _ v (by simp only [slot_len, hs]) (by simp only [go_sem, Nat.reduceLT, Nat.reduceEqDiff, reduceCtorEq, Int.reduceLT, Int.reduceEq, h0]) (by simp only [go_sem, Nat.reduceLT, Nat.reduceEqDiff, reduceCtorEq, Int.reduceLT, Int.reduceEq, h6]) hbuf (by simp only [go_sem, Nat.reduceLT, Nat.reduceEqDiff, reduceCtorEq, Int.reduceLT, Int.reduceEq, h8, wholeF]) (by simp only [go_sem, Nat.reduceLT, Nat.reduceEqDiff, reduceCtorEq, Int.reduceLT, Int.reduceEq, h9, wholeF]; rfl)
  | succ n ih =>
    intro a out s h v Q hn hs h0 h1 h6 h7 h8 h9 hbuf hQ
    rw [X_loop, X_eq f32_0.eq_1]
    have hn0 : (0 : Int) < ((n + 1 : Nat) : Int) := by omega
    simp only [go_sem, Nat.reduceLT, Nat.reduceEqDiff, reduceCtorEq, Int.reduceLT, Int.reduceEq, hs, h0, h1, h6, h7, h8, h9, hn0]
    obtain ⟨w, hc, hcall, hw⟩ := row_f33 b vb_ hv a hb
    obtain ⟨u1, u2, hu⟩ := getRow_two b a
    unfold ValIs at hw
    rw [hw, hu] at hcall
    refine XO_callvP (by simp only [go_sem, Nat.reduceLT, Nat.reduceEqDiff, reduceCtorEq, Int.reduceLT, Int.reduceEq, hs]) (by simp only [List.map, go_sem, Nat.reduceLT, Nat.reduceEqDiff, reduceCtorEq, Int.reduceLT, Int.reduceEq, hs]; exact hv.clos (clos_cv clos_nil)) hcall clos_row ?_
    simp only [go_sem, Nat.reduceLT, Nat.reduceEqDiff, reduceCtorEq, Int.reduceLT, Int.reduceEq, hs, h0, h1, h6, h7, h8, h9]
    have e7 : IntKind.i64.wrap (((n + 1 : Nat) : Int) - 1) = (n : Int) := by rw [IntWalk.i64_in _ (by omega)]; omega
    by_cases c1 : ((getRow b a).2.2 : Int) = 0
    · have c1' : (getRow b a).2.2 = 0 := by omega
      simp only [go_sem, Nat.reduceLT, Nat.reduceEqDiff, reduceCtorEq, Int.reduceLT, Int.reduceEq, hs, h6, eq_true c1]
      refine XO_appG (new := [[u1, u2]]) (hbuf.push _) (by simp only [go_sem, Nat.reduceLT, Nat.reduceEqDiff, reduceCtorEq, Int.reduceLT, Int.reduceEq, hs]) (by simp only [go_sem, Nat.reduceLT, Nat.reduceEqDiff, reduceCtorEq, Int.reduceLT, Int.reduceEq, hs]) (by simp only [List.length_singleton]; omega) (by simp only [List.length_singleton]; omega) (fun v' h' hb' _ _ => ?_)
      simp only [go_sem, Nat.reduceLT, Nat.reduceEqDiff, reduceCtorEq, Int.reduceLT, Int.reduceEq, hs, h7, e7]
      refine ih (getRow b a).2.1 (out ++ [(getRow b a).1]) _ h' v' Q (by simp only [List.length_append, List.length_singleton]; omega) (by simp only [slot_len, hs]) (by simp only [go_sem, Nat.reduceLT, Nat.reduceEqDiff, reduceCtorEq, Int.reduceLT, Int.reduceEq, h0]) (by simp only [go_sem, Nat.reduceLT, Nat.reduceEqDiff, reduceCtorEq, Int.reduceLT, Int.reduceEq, h1]) (by simp only [go_sem, Nat.reduceLT, Nat.reduceEqDiff, reduceCtorEq, Int.reduceLT, Int.reduceEq, hs]) (by simp only [go_sem, Nat.reduceLT, Nat.reduceEqDiff, reduceCtorEq, Int.reduceLT, Int.reduceEq, hs]) (by simp only [go_sem, Nat.reduceLT, Nat.reduceEqDiff, reduceCtorEq, Int.reduceLT, Int.reduceEq, hs]) (by simp only [go_sem, Nat.reduceLT, Nat.reduceEqDiff, reduceCtorEq, Int.reduceLT, Int.reduceEq, hs, c1']; rfl) (by rw [hu]; exact hb') ?_
      simp only [wholeF, c1', ne_eq, not_true_eq_false, if_false] at hQ
      exact hQ
    · have c1' : ¬ (getRow b a).2.2 = 0 := by omega
      simp only [go_sem, Nat.reduceLT, Nat.reduceEqDiff, reduceCtorEq, Int.reduceLT, Int.reduceEq, hs, h6, h7, c1, e7]
      refine f32_end (getRow b a).2.2 _ _ Q (by simp only [slot_len, hs]) (by simp only [go_sem, Nat.reduceLT, Nat.reduceEqDiff, reduceCtorEq, Int.reduceLT, Int.reduceEq, hs]) c1' (fun s' hs' hl => ?_)
      simp only [wholeF, c1', ne_eq, not_false_eq_true, if_true] at hQ
      refine hQ s' _ v hs' ?_ ?_ (hbuf.push _) ?_ ?_
      · rw [hl 0 (by decide)]; simp only [go_sem, Nat.reduceLT, Nat.reduceEqDiff, reduceCtorEq, Int.reduceLT, Int.reduceEq, h0]
      · rw [hl 6 (by decide)]; simp only [go_sem, Nat.reduceLT, Nat.reduceEqDiff, reduceCtorEq, Int.reduceLT, Int.reduceEq, h6]
      · rw [hl 8 (by decide)]; simp only [go_sem, Nat.reduceLT, Nat.reduceEqDiff, reduceCtorEq, Int.reduceLT, Int.reduceEq, hs]
      · rw [hl 9 (by decide)]; simp only [go_sem, Nat.reduceLT, Nat.reduceEqDiff, reduceCtorEq, Int.reduceLT, Int.reduceEq, hs]

theorem clos_slV {h : Heap} {z : Nat} {els : List (List CV)} {v : VV} {c : CV} (hb : BufG h z els v) : closRes h (.tup [v, .cv c]) = some (.tup [slV z els, .cv c]) := by
  obtain ⟨h1, e⟩ := hb.slV
  simp only [closRes, closAs, e]
  rfl

theorem whole_f32 (b : List UInt8) (vb_ : VV) (hv : SlV 1 (eB b) vb_) (hb : b.length ≤ 1000000000) :
    ∃ v h', call F 32 [vb_, .func 33 []] [] = some (.ret v, h') ∧ CloseTo (.tup [slV 2 (wholeB (getRow b) b).1, vi .u16 (wholeB (getRow b) b).2]) v h' := by
  refine call_E (fn := f32) rfl ?_
  simp only [f32]
  generalize hs0 : ([vb_, .func 33 []] ++ List.replicate _ VV.undef : List VV) = s
  have hs : s.length = 55 := by rw [← hs0]; rfl
  have h0 : s.getD 0 .undef = vb_ := by rw [← hs0]; rfl
  have h1 : s.getD 1 .undef = .func 33 [] := by rw [← hs0]; rfl
  clear hs0
  simp only [go_sem, Nat.reduceLT, Nat.reduceEqDiff, reduceCtorEq, Int.reduceLT, Int.reduceEq, hs, h0, h1]
  refine XO_callP (by simp only [List.map, go_sem, Nat.reduceLT, Nat.reduceEqDiff, reduceCtorEq, Int.reduceLT, Int.reduceEq, hs]; exact hv.clos (clos_cv clos_nil)) (num_f13 b vb_ hv 0 [] hb) clos_tup3 ?_
  have hbd := getNum_bound b 0
  unfold wholeB
  generalize getNum b 0 = x at hbd ⊢
  obtain ⟨n, a, e⟩ := x
  simp only [go_sem, Nat.reduceLT, Nat.reduceEqDiff, reduceCtorEq, Int.reduceLT, Int.reduceEq, hs, h0, h1] at hbd ⊢
  -- the end, with an error
  have bad : ∀ (e : Nat) (s' : List VV) (h' : Heap) (w : VV), s'.length = 55 → e ≠ 0 → s'.getD 9 .undef = vi .u16 e → w = .tup [slV 2 [], vi .u16 e] →
      X F (.seq (.block 2
  (.seq (.reg [
  ⟨none, (some 46), (.mv (.t 9))⟩,
  ⟨none, (some 47), (.bin .neq (.t 46) (.c (.cv (.sc (.int .u16 0)))))⟩,
  ⟨none, (some 45), (.mv (.t 47))⟩])
  (.cond (.t 45)
  (.seq (.reg [
  ⟨none, (some 48), (.mv (.t 9))⟩,
  ⟨none, (some 4), (.mv (.c (.cv (.sc (.slice none 0 0)))))⟩,
  ⟨none, (some 5), (.mv (.t 48))⟩])
  .ret)
  (.seq (.reg [
  ⟨none, (some 50), (.mv (.t 8))⟩,
  ⟨none, (some 51), (.mv (.t 0))⟩,
  ⟨none, (some 52), (.len false (.t 51))⟩,
  ⟨none, (some 53), (.bin .lss (.t 50) (.t 52))⟩,
  ⟨none, (some 49), (.mv (.t 53))⟩])
  (.cond (.t 49)
  (.seq (.reg [
  ⟨none, (some 4), (.mv (.c (.cv (.sc (.slice none 0 0)))))⟩,
  ⟨none, (some 5), (.mv (.c (.cv (.sc (.int .u16 11)))))⟩])
  .ret) .skip)))))
  (.seq (.reg [
  ⟨none, (some 54), (.mv (.t 6))⟩,
  ⟨none, (some 4), (.mv (.t 54))⟩,
  ⟨none, (some 5), (.mv (.c (.cv (.sc (.int .u16 0)))))⟩])
  .ret)) ⟨s', h'⟩ (RQ [.t 4, .t 5] (CloseTo w)) := by
    intro e s' h' w hs' he h9 hw
    have he' : ¬ (e : Int) = 0 := by omega
    simp only [go_sem, Nat.reduceLT, Nat.reduceEqDiff, reduceCtorEq, Int.reduceLT, Int.reduceEq, hs', h9, he']
    rw [hw]
    exact clos_slV (BufG.nil h' 2)
  by_cases c1 : (e : Int) = 0
  · have c1' : e = 0 := by omega
    subst c1'
    by_cases c2 : (5000 : Int) < (n : Int)
    · have c2' : 5000 < n := by omega
      simp only [go_sem, Nat.reduceLT, Nat.reduceEqDiff, reduceCtorEq, Int.reduceLT, Int.reduceEq, hs, h0, h1, eq_true c1, c2, c2']
      refine f32_end 3 _ _ _ (by simp only [slot_len, hs]) (by simp only [go_sem, Nat.reduceLT, Nat.reduceEqDiff, reduceCtorEq, Int.reduceLT, Int.reduceEq, hs]; rfl) (by decide) (fun s' hs' hl => ?_)
      simp only [B_exit, if_true, K_norm]
      refine bad 3 _ _ _ hs' (by decide) ?_ rfl
      rw [hl 9 (by decide)]; simp only [go_sem, Nat.reduceLT, Nat.reduceEqDiff, reduceCtorEq, Int.reduceLT, Int.reduceEq, hs]; rfl
    · have c2' : ¬ 5000 < n := by omega
      simp only [go_sem, Nat.reduceLT, Nat.reduceEqDiff, reduceCtorEq, Int.reduceLT, Int.reduceEq, hs, h0, h1, eq_true c1, c2, c2']
      refine f32_loop b vb_ hv hb n a [] _ _ nilS _ (by simp only [List.length_nil]; omega) (by simp only [slot_len, hs]) (by simp only [go_sem, Nat.reduceLT, Nat.reduceEqDiff, reduceCtorEq, Int.reduceLT, Int.reduceEq, h0]) (by simp only [go_sem, Nat.reduceLT, Nat.reduceEqDiff, reduceCtorEq, Int.reduceLT, Int.reduceEq, h1]) (by simp only [go_sem, Nat.reduceLT, Nat.reduceEqDiff, reduceCtorEq, Int.reduceLT, Int.reduceEq, hs]) (by simp only [go_sem, Nat.reduceLT, Nat.reduceEqDiff, reduceCtorEq, Int.reduceLT, Int.reduceEq, hs]) (by simp only [go_sem, Nat.reduceLT, Nat.reduceEqDiff, reduceCtorEq, Int.reduceLT, Int.reduceEq, hs]) (by simp only [go_sem, Nat.reduceLT, Nat.reduceEqDiff, reduceCtorEq, Int.reduceLT, Int.reduceEq, hs]; rfl) (BufG.nil _ _) ?_
      intro s' h' v' hs' h0' h6' hb' h8' h9'
      simp only [B_exit, if_true, K_norm]
      generalize wholeF (getRow b) n a [] = y at *
      obtain ⟨out, j, e2⟩ := y
      simp only at *
      by_cases c3 : (e2 : Int) = 0
      · have c3' : e2 = 0 := by omega
        subst c3'
        by_cases c4 : (j : Int) < (b.length : Int)
        · have c4' : j < b.length := by omega
          simp only [go_sem, Nat.reduceLT, Nat.reduceEqDiff, reduceCtorEq, Int.reduceLT, Int.reduceEq, hs', h0', h6', h8', h9', eq_true c3, eB_len, hv.ln, c4, c4']
          exact clos_slV (BufG.nil h' 2)
        · have c4' : ¬ j < b.length := by omega
          simp only [go_sem, Nat.reduceLT, Nat.reduceEqDiff, reduceCtorEq, Int.reduceLT, Int.reduceEq, hs', h0', h6', h8', h9', eq_true c3, eB_len, hv.ln, c4, c4']
          exact clos_slV hb'
      · have c3' : e2 ≠ 0 := by omega
        rw [if_pos c3']
        exact bad e2 s' h' _ hs' c3' h9' rfl
  · have c1' : e ≠ 0 := by omega
    simp only [go_sem, Nat.reduceLT, Nat.reduceEqDiff, reduceCtorEq, Int.reduceLT, Int.reduceEq, hs, h0, h1, c1]
    rw [if_pos c1']
    refine f32_end e _ _ _ (by simp only [slot_len, hs]) (by simp only [go_sem, Nat.reduceLT, Nat.reduceEqDiff, reduceCtorEq, Int.reduceLT, Int.reduceEq, hs]) c1' (fun s' hs' hl => ?_)
    simp only [B_exit, if_true, K_norm]
    refine bad e _ _ _ hs' c1' ?_ rfl
    rw [hl 9 (by decide)]; simp only [go_sem, Nat.reduceLT, Nat.reduceEqDiff, reduceCtorEq, Int.reduceLT, Int.reduceEq, hs]

/-- Rows, of all bytes. -/
theorem rows_f22 (b : List UInt8) (vb_ : VV) (hv : SlV 1 (eB b) vb_) (hb : b.length ≤ 1000000000) :
    ∃ v h', call F 22 [vb_] [] = some (.ret v, h') ∧ CloseTo (.tup [slV 2 (wholeB (getRow b) b).1, vi .u16 (wholeB (getRow b) b).2]) v h' := by
  refine call_E (fn := f22) rfl ?_
  simp only [f22]
  generalize hs0 : ([vb_] ++ List.replicate _ VV.undef : List VV) = s
  have hs : s.length = 8 := by rw [← hs0]; rfl
  have h0 : s.getD 0 .undef = vb_ := by rw [← hs0]; rfl
  clear hs0
  simp only [go_sem, Nat.reduceLT, Nat.reduceEqDiff, reduceCtorEq, Int.reduceLT, Int.reduceEq, hs, h0]
  obtain ⟨v, hc, hcall, hw⟩ := whole_f32 b vb_ hv hb
  refine XO_callP (h1 := []) (by simp only [List.map, go_sem, Nat.reduceLT, Nat.reduceEqDiff, reduceCtorEq, Int.reduceLT, Int.reduceEq, hs]; exact hv.clos rfl) hcall hw ?_
  simp only [go_sem, Nat.reduceLT, Nat.reduceEqDiff, reduceCtorEq, Int.reduceLT, Int.reduceEq, hs]
  unfold slV
  split <;> rfl

end Go.V01

set_option linter.unusedSimpArgs false
namespace Go.V01
open Go Go.Vm

/-- An element that is a row. -/
def rowE (e : List CV) (p : List UInt8 × List UInt8) : Prop := ∃ c, e = [.sc (.string ⟨p.1.toArray⟩), c] ∧ SlV 1 (eB p.2) (.cv c)
inductive RowsE : List (List CV) → List (List UInt8 × List UInt8) → Prop
  | nil : RowsE [] []
  | cons {e : List CV} {p : List UInt8 × List UInt8} {l : List (List CV)} {k : List (List UInt8 × List UInt8)} (h : rowE e p) (t : RowsE l k) : RowsE (e :: l) (p :: k)
theorem RowsE.len {l : List (List CV)} {k : List (List UInt8 × List UInt8)} (h : RowsE l k) : l.length = k.length := by
  induction h with
  | nil => rfl
  | cons _ _ ih => simp [ih]

def rowB (p : List UInt8 × List UInt8) : List UInt8 := text p.1 ++ text p.2
def rowsB (kv : List (List UInt8 × List UInt8)) : List UInt8 := num (clamp kv.length) ++ (kv.map rowB).flatten

theorem numF_ne (k n : Nat) : numF k n ≠ [] := by
  cases k with
  | zero => simp [numF]
  | succ k => simp only [numF]; split <;> simp
theorem text_ne (l : List UInt8) : eB (text l) ≠ [] := by
  unfold text num
  simp [eB, numF_ne]
theorem text_len (l : List UInt8) : l.length ≤ (text l).length := by simp [text]

theorem text_pure (l : List UInt8) (hl : l.length ≤ 1000000000) : ∃ v h', call F 14 [txt l] [] = some (.ret v, h') ∧ closRes h' v = some (.cv (.sl 1 (eB (text l)) false)) := by
  obtain ⟨v, h', h1, h2⟩ := text_f14 l [] hl
  exact ⟨v, h', h1, h2.res (text_ne l)⟩
theorem num_pure (n : Int) : ∃ v h', call F 12 [vi .i64 n] [] = some (.ret v, h') ∧ closRes h' v = some (.cv (.sl 1 (eB (num (clamp n))) false)) := by
  obtain ⟨v, h', h1, h2⟩ := num_f12 n []
  refine ⟨v, h', h1, h2.res ?_⟩
  unfold num
  simp [eB, numF_ne]

theorem f20_loop (l : List (List CV)) (vl : VV) (hv : SlV 2 l vl) : ∀ (rest : List (List CV)) (kv : List (List UInt8 × List UInt8)) (_ : RowsE rest kv) (i : Nat) (out : List UInt8) (s : List VV) (h : Heap) (v : VV) (Q : Pst),
    l.drop i = rest → i ≤ l.length → l.length ≤ 1000000000 → out.length + ((kv.map rowB).flatten).length ≤ 1000000000 → s.length = 28 →
    s.getD 9 .undef = vl → s.getD 10 .undef = vi .i64 l.length → s.getD 11 .undef = vi .i64 i → s.getD 3 .undef = v → BufG h 1 (eB out) v →
    (∀ s' h' v', s'.length = 28 → s'.getD 3 .undef = v' → BufG h' 1 (eB (out ++ (kv.map rowB).flatten)) v' → Q (.exit 0) ⟨s', h'⟩) →
    X F (.loop f20_0) ⟨s, h⟩ Q := by
  intro rest kv hR
  induction hR with
  | nil =>
    intro i out s h v Q hd hi hl hn hs h9 h10 h11 h3 hb hQ
    rw [X_loop, X_eq f20_0.eq_1]
    have hlt : ¬ (i : Int) < (l.length : Int) := by
      have := congrArg List.length hd
      rw [List.length_drop, List.length_nil] at this
      omega
    simp only [go_sem, Nat.reduceLT, Nat.reduceEqDiff, reduceCtorEq, Int.reduceLT, Int.reduceEq, hs, h10, h11, hlt]
    exact hQ _ _ v (by simp only [slot_len, hs]) (by simp only [go_sem, Nat.reduceLT, Nat.reduceEqDiff, reduceCtorEq, Int.reduceLT, Int.reduceEq, h3]) (by simpa using hb)
  | @cons e p rl rk hrow hrest ih =>
    intro i out s h v Q hd hi hl hn hs h9 h10 h11 h3 hb hQ
    have hget : l[i]? = some e := by
      have := congrArg (fun x => x[0]?) hd
      simpa using this
    have hilt : i < l.length := (List.getElem?_eq_some_iff.1 hget).1
    have hd' : l.drop (i + 1) = rl := by
      rw [← List.drop_drop, hd]; rfl
    obtain ⟨c, rfl, hc⟩ := hrow
    have hlt : (i : Int) < (l.length : Int) := by omega
    simp only [List.map_cons, List.flatten_cons, List.length_append, rowB] at hn
    have hk1 := text_len p.1
    have hk2 := text_len p.2
    rw [X_loop, X_eq f20_0.eq_1]
    simp only [go_sem, Nat.reduceLT, Nat.reduceEqDiff, reduceCtorEq, Int.reduceLT, Int.reduceEq, hs, h9, h10, h11, h3, hlt]
    rw [hv.ia (e := [.sc (.string ⟨p.1.toArray⟩), c]) (by omega) (by rw [show ((i : Nat) : Int).toNat = i from rfl]; exact hget)]
    simp only [go_sem, Nat.reduceLT, Nat.reduceEqDiff, reduceCtorEq, Int.reduceLT, Int.reduceEq, hs, h9, h10, h11, h3]
    rw [ld_l_at (v := .cv (.sc (.string ⟨p.1.toArray⟩))) rfl]
    simp only [go_sem, Nat.reduceLT, Nat.reduceEqDiff, reduceCtorEq, Int.reduceLT, Int.reduceEq, hs, h9, h10, h11, h3]
    obtain ⟨v1, hc1, hcall1, hres1⟩ := text_pure p.1 (by omega)
    refine XO_callP (by simp only [List.map, go_sem, Nat.reduceLT, Nat.reduceEqDiff, reduceCtorEq, Int.reduceLT, Int.reduceEq, hs]; exact clos_cv clos_nil) hcall1 hres1 ?_
    simp only [go_sem, Nat.reduceLT, Nat.reduceEqDiff, reduceCtorEq, Int.reduceLT, Int.reduceEq, hs, h9, h10, h11, h3]
    refine XO_appG (new := eB (text p.1)) (hb.push _) (by simp only [go_sem, Nat.reduceLT, Nat.reduceEqDiff, reduceCtorEq, Int.reduceLT, Int.reduceEq, hs]) (by simp only [go_sem, Nat.reduceLT, Nat.reduceEqDiff, reduceCtorEq, Int.reduceLT, Int.reduceEq, hs]) (by simp only [eB_len]; omega) (by simp only [eB_len]; omega) (fun v' h' hb' _ hfr => ?_)
    have hbox := hfr h.length _ at_last (fun e g => by simp)
    simp only [go_sem, Nat.reduceLT, Nat.reduceEqDiff, reduceCtorEq, Int.reduceLT, Int.reduceEq, hs, h9, h10, h11, h3]
    rw [ld_ptr (c := .cv c) hbox rfl]
    simp only [go_sem, Nat.reduceLT, Nat.reduceEqDiff, reduceCtorEq, Int.reduceLT, Int.reduceEq, hs, h9, h10, h11, h3, hc.bs]
    obtain ⟨v2, hc2, hcall2, hres2⟩ := text_pure p.2 (by omega)
    refine XO_callP (by simp only [List.map, go_sem, Nat.reduceLT, Nat.reduceEqDiff, reduceCtorEq, Int.reduceLT, Int.reduceEq, hs]; exact clos_cv clos_nil) hcall2 hres2 ?_
    simp only [go_sem, Nat.reduceLT, Nat.reduceEqDiff, reduceCtorEq, Int.reduceLT, Int.reduceEq, hs, h9, h10, h11, h3]
    rw [← eB_append] at hb'
    refine XO_appG (new := eB (text p.2)) hb' (by simp only [go_sem, Nat.reduceLT, Nat.reduceEqDiff, reduceCtorEq, Int.reduceLT, Int.reduceEq, hs]) (by simp only [go_sem, Nat.reduceLT, Nat.reduceEqDiff, reduceCtorEq, Int.reduceLT, Int.reduceEq, hs]) (by simp only [eB_len, List.length_append]; omega) (by simp only [eB_len, List.length_append]; omega) (fun v3 h3' hb3 _ _ => ?_)
    rw [← eB_append, List.append_assoc] at hb3
    have e5 : IntKind.i64.wrap ((i : Int) + 1) = ((i + 1 : Nat) : Int) := by rw [IntWalk.i64_in _ (by omega)]; omega
    simp only [go_sem, Nat.reduceLT, Nat.reduceEqDiff, reduceCtorEq, Int.reduceLT, Int.reduceEq, hs, h11, e5]
    refine ih (i + 1) (out ++ rowB p) _ h3' v3 Q hd' (by omega) hl (by simp only [rowB, List.length_append]; omega) (by simp only [slot_len, hs]) (by simp only [go_sem, Nat.reduceLT, Nat.reduceEqDiff, reduceCtorEq, Int.reduceLT, Int.reduceEq, h9]) (by simp only [go_sem, Nat.reduceLT, Nat.reduceEqDiff, reduceCtorEq, Int.reduceLT, Int.reduceEq, h10]) (by simp only [go_sem, Nat.reduceLT, Nat.reduceEqDiff, reduceCtorEq, Int.reduceLT, Int.reduceEq, hs]) (by simp only [go_sem, Nat.reduceLT, Nat.reduceEqDiff, reduceCtorEq, Int.reduceLT, Int.reduceEq, hs]) hb3 ?_
    simp only [List.map_cons, List.flatten_cons, ← List.append_assoc] at hQ
    exact hQ

/-- Rows' bytes. -/
theorem rows_f20 (l : List (List CV)) (kv : List (List UInt8 × List UInt8)) (vl : VV) (hv : SlV 2 l vl) (hR : RowsE l kv) (h : Heap) (hn : (rowsB kv).length ≤ 1000000000) (hk : kv.length ≤ 1000000000) :
    ∃ v h', call F 20 [vl] h = some (.ret v, h') ∧ BufG h' 1 (eB (rowsB kv)) v := by
  have : ∃ v h', call F 20 [vl] h = some (.ret v, h') ∧ (fun v h' => BufG h' 1 (eB (rowsB kv)) v) v h' := by
    refine call_E (fn := f20) rfl ?_
    simp only [f20]
    generalize hs0 : ([vl] ++ List.replicate _ VV.undef : List VV) = s
    have hs : s.length = 28 := by rw [← hs0]; rfl
    have h0 : s.getD 0 .undef = vl := by rw [← hs0]; rfl
    clear hs0
    simp only [go_sem, Nat.reduceLT, Nat.reduceEqDiff, reduceCtorEq, Int.reduceLT, Int.reduceEq, hs, h0, hv.ln]
    obtain ⟨v1, h1, hcall1, hb1⟩ := num_f12 l.length h
    refine XO_callR (by simp only [List.map, go_sem, Nat.reduceLT, Nat.reduceEqDiff, reduceCtorEq, Int.reduceLT, Int.reduceEq, hs]; exact hcall1) ?_
    simp only [go_sem, Nat.reduceLT, Nat.reduceEqDiff, reduceCtorEq, Int.reduceLT, Int.reduceEq, hs, h0, hv.ln]
    have hne : eB (num (clamp l.length)) ≠ [] := by unfold num; simp [eB, numF_ne]
    have hlen : ((l.length : Nat) : Int) = ((kv.length : Nat) : Int) := by rw [hR.len]
    simp only [rowsB, List.length_append] at hn
    refine f20_loop l vl hv l kv hR 0 (num (clamp l.length)) _ h1 v1 _ rfl (by omega) (by rw [hR.len]; exact hk) (by rw [hlen]; omega) (by simp only [slot_len, hs]) (by simp only [go_sem, Nat.reduceLT, Nat.reduceEqDiff, reduceCtorEq, Int.reduceLT, Int.reduceEq, hs]) (by simp only [go_sem, Nat.reduceLT, Nat.reduceEqDiff, reduceCtorEq, Int.reduceLT, Int.reduceEq, hs]) (by simp only [go_sem, Nat.reduceLT, Nat.reduceEqDiff, reduceCtorEq, Int.reduceLT, Int.reduceEq, hs]; rfl) (by simp only [go_sem, Nat.reduceLT, Nat.reduceEqDiff, reduceCtorEq, Int.reduceLT, Int.reduceEq, hs]) (hb1.toG hne) ?_
    intro s' h' v' hs' h3' hb'
    simp only [go_sem, Nat.reduceLT, Nat.reduceEqDiff, reduceCtorEq, Int.reduceLT, Int.reduceEq, hs', h3']
    rw [hlen] at hb'
    exact hb'
  exact this

end Go.V01

set_option linter.unusedSimpArgs false
namespace Go.V01
open Go Go.Vm

theorem whole_known : wholeB (getRow [1, 1, 97, 1, 49]) [1, 1, 97, 1, 49] = ([rowC [97] [49]], 0) := by rfl
theorem num_known : getNum [128, 0] 0 = (0, 0, 11) := by rfl

theorem known_f11 : ∃ h', call F 11 [] [] = some (.ret (vb true), h') := by
  have : ∃ v h', call F 11 [] [] = some (.ret v, h') ∧ ValIs (vb true) v h' := by
    refine call_E (fn := f11) rfl ?_
    simp only [f11]
    generalize hs0 : ([] ++ List.replicate _ VV.undef : List VV) = s
    have hs : s.length = 47 := by rw [← hs0]; rfl
    clear hs0
    simp only [go_sem, Nat.reduceLT, Nat.reduceEqDiff, reduceCtorEq, Int.reduceLT, Int.reduceEq, hs]
    rw [show mkoO [] 1 5 _ _ = some (.own 0 0 0 5 true, [.arr 1 (eB [1, 1, 97, 1, 49]) 0 false]) from rfl]
    simp only [go_sem, Nat.reduceLT, Nat.reduceEqDiff, reduceCtorEq, Int.reduceLT, Int.reduceEq, hs]
    obtain ⟨v1, hc1, hcall1, hres1⟩ := rows_f22 [1, 1, 97, 1, 49] (.cv (.sl 1 (eB [1, 1, 97, 1, 49]) true)) SlV.sl (by decide)
    rw [whole_known] at hres1
    refine XO_callP (h1 := [.arr 1 (eB [1, 1, 97, 1, 49]) 0 true]) (by simp only [List.map, go_sem, Nat.reduceLT, Nat.reduceEqDiff, reduceCtorEq, Int.reduceLT, Int.reduceEq, hs]; rfl) hcall1 hres1 ?_
    simp only [go_sem, Nat.reduceLT, Nat.reduceEqDiff, reduceCtorEq, Int.reduceLT, Int.reduceEq, hs]
    refine XO_callP (by simp only [List.map, go_sem, Nat.reduceLT, Nat.reduceEqDiff, reduceCtorEq, Int.reduceLT, Int.reduceEq, hs]; exact (SlV.sl (es := eB [128, 0])).clos (clos_cv clos_nil)) (num_f13 [128, 0] _ SlV.sl 0 [] (by decide)) rfl ?_
    rw [num_known]
    simp only [go_sem, Nat.reduceLT, Nat.reduceEqDiff, reduceCtorEq, Int.reduceLT, Int.reduceEq, hs]
    obtain ⟨v2, hc2, hcall2, hres2⟩ := num_pure 300
    rw [show num (clamp 300) = [172, 2] from rfl] at hres2
    refine XO_callP (by simp only [List.map, go_sem, Nat.reduceLT, Nat.reduceEqDiff, reduceCtorEq, Int.reduceLT, Int.reduceEq, hs]; exact clos_cv clos_nil) hcall2 hres2 ?_
    simp only [go_sem, Nat.reduceLT, Nat.reduceEqDiff, reduceCtorEq, Int.reduceLT, Int.reduceEq, hs]
    have k0 : ((0 : Nat) : Int) = 0 := rfl
    have k11 : ((11 : Nat) : Int) = 11 := rfl
    have es : slV 2 ([rowC [97] [49]], 0).1 = .cv (.sl 2 [[.sc (.string ⟨[97].toArray⟩), .sl 1 (eB [49]) false]] false) := rfl
    have k1 : ((1 : Nat) : Int) = 1 := rfl
    simp only [go_sem, Nat.reduceLT, Nat.reduceEqDiff, reduceCtorEq, Int.reduceLT, Int.reduceEq, hs, k0, k1, k11, es, List.length_cons, List.length_nil]
    rw [ia_sl (e := [.sc (.string ⟨[97].toArray⟩), .sl 1 (eB [49]) false]) (by decide) rfl]
    simp only [go_sem, Nat.reduceLT, Nat.reduceEqDiff, reduceCtorEq, Int.reduceLT, Int.reduceEq, hs, k0, k1, k11]
    obtain ⟨v3, hc3, hcall3, hb3⟩ := rows_f20 [[.sc (.string ⟨[97].toArray⟩), .sl 1 (eB [49]) false]] [([97], [49])] (.cv (.sl 2 [[.sc (.string ⟨[97].toArray⟩), .sl 1 (eB [49]) false]] false)) SlV.sl (.cons ⟨_, rfl, SlV.sl⟩ .nil) [] (by decide) (by decide)
    have hres3 := hb3.close
    rw [show slV 1 (eB (rowsB [([97], [49])])) = .cv (.sl 1 (eB [1, 1, 97, 1, 49]) false) from rfl] at hres3
    refine XO_callP (by simp only [List.map, go_sem, Nat.reduceLT, Nat.reduceEqDiff, reduceCtorEq, Int.reduceLT, Int.reduceEq, hs]; exact clos_cv clos_nil) hcall3 hres3 ?_
    simp only [go_sem, Nat.reduceLT, Nat.reduceEqDiff, reduceCtorEq, Int.reduceLT, Int.reduceEq, hs, k0, k1, k11]
    exact rfl
  obtain ⟨v, h', h1, h2⟩ := this
  unfold ValIs at h2
  exact ⟨h', by rw [h1, h2]⟩

end Go.V01

set_option linter.unusedSimpArgs false
namespace Go.V01
open Go Go.Vm

/-! ### numbers' bytes -/

theorem u8_toNat (n : Nat) (h : n < 256) : (u8 n).toNat = n := by
  unfold u8
  rw [UInt8.toNat_ofNat']
  exact Nat.mod_eq_of_lt h
theorem u8_inj {a b : Nat} (ha : a < 256) (hb : b < 256) (h : u8 a = u8 b) : a = b := by
  have := congrArg UInt8.toNat h
  rwa [u8_toNat a ha, u8_toNat b hb] at this

theorem numF_inj : ∀ k a b, a < 128 ^ (k + 1) → b < 128 ^ (k + 1) → numF k a = numF k b → a = b
  | 0, a, b, ha, hb, h => by
    simp only [numF, List.cons.injEq, and_true] at h
    exact u8_inj (by omega) (by omega) h
  | k + 1, a, b, ha, hb, h => by
    rw [Nat.pow_succ] at ha hb
    simp only [numF] at h
    by_cases h1 : 127 < a
    · by_cases h2 : 127 < b
      · rw [if_pos h1, if_pos h2, List.cons.injEq] at h
        have e1 := u8_inj (by omega) (by omega) h.1
        have e2 := numF_inj k _ _ (by omega) (by omega) h.2
        omega
      · rw [if_pos h1, if_neg h2, List.cons.injEq] at h
        have e1 := u8_inj (by omega) (by omega) h.1
        omega
    · by_cases h2 : 127 < b
      · rw [if_neg h1, if_pos h2, List.cons.injEq] at h
        have e1 := u8_inj (by omega) (by omega) h.1
        omega
      · rw [if_neg h1, if_neg h2, List.cons.injEq] at h
        exact u8_inj (by omega) (by omega) h.1

theorem numF_mono : ∀ k a b, a ≤ b → (numF k a).length ≤ (numF k b).length
  | 0, a, b, h => by simp [numF]
  | k + 1, a, b, h => by
    simp only [numF]
    by_cases h1 : 127 < a
    · rw [if_pos h1, if_pos (by omega)]
      simp only [List.length_cons]
      have := numF_mono k (a / 128) (b / 128) (by omega)
      omega
    · rw [if_neg h1]
      split <;> simp

theorem numF_len : ∀ k j n, n < 128 ^ (j + 1) → (numF k n).length ≤ j + 1
  | 0, j, n, h => by simp [numF]
  | k + 1, 0, n, h => by
    have : ¬ 127 < n := by omega
    simp only [numF, if_neg this]
    simp
  | k + 1, j + 1, n, h => by
    rw [Nat.pow_succ] at h
    simp only [numF]
    split
    · have := numF_len k j (n / 128) (by omega)
      simp only [List.length_cons]; omega
    · simp

theorem clamp_le (n : Int) : clamp n ≤ 9007199254740992 := by unfold clamp; omega
theorem clamp_of (n : Nat) (h : n ≤ 9007199254740992) : clamp n = n := by unfold clamp; omega
theorem pow9 : (128 : Nat) ^ (8 + 1) = 9223372036854775808 := by decide
theorem pow8 : (128 : Nat) ^ (7 + 1) = 72057594037927936 := by decide
theorem num_len (n : Int) : (num (clamp n)).length ≤ 8 := numF_len 8 7 _ (by rw [pow8]; have := clamp_le n; omega)
theorem num_eq {a b : Nat} (ha : a ≤ 9007199254740992) (hb : b ≤ 9007199254740992) : num a = num b ↔ a = b :=
  ⟨numF_inj 8 a b (by rw [pow9]; omega) (by rw [pow9]; omega), fun h => by rw [h]⟩

theorem law_order (a b : Nat) (ha : a < 18446744073709551616) (hb : b < 18446744073709551616) : ∃ h', call F 4 [vi .u64 a, vi .u64 b] [] = some (.ret (vb true), h') := by
  refine call_V (fn := f4) rfl ?_
  simp only [f4]
  generalize hs0 : ([vi .u64 a, vi .u64 b] ++ List.replicate _ VV.undef : List VV) = s
  have hs : s.length = 49 := by rw [← hs0]; rfl
  have h0 : s.getD 0 .undef = vi .u64 a := by rw [← hs0]; rfl
  have h1 : s.getD 1 .undef = vi .u64 b := by rw [← hs0]; rfl
  clear hs0
  have ea : IntKind.i64.wrap ((a : Int).tmod 9007199254740993) = ((a % 9007199254740993 : Nat) : Int) := by
    rw [Int.tmod_eq_emod_of_nonneg (by omega), IntWalk.i64_in _ (by omega)]; omega
  have eb : IntKind.i64.wrap ((b : Int).tmod 9007199254740993) = ((b % 9007199254740993 : Nat) : Int) := by
    rw [Int.tmod_eq_emod_of_nonneg (by omega), IntWalk.i64_in _ (by omega)]; omega
  simp only [go_sem, Nat.reduceLT, Nat.reduceEqDiff, reduceCtorEq, Int.reduceLT, Int.reduceEq, hs, h0, h1, ea, eb]
  have hx : a % 9007199254740993 ≤ 9007199254740992 := by omega
  have hy : b % 9007199254740993 ≤ 9007199254740992 := by omega
  generalize a % 9007199254740993 = x at hx ⊢
  generalize b % 9007199254740993 = y at hy ⊢
  refine XB_cut (fun st => st.h = [] ∧ st.s.length = 49 ∧ ∃ p q : Nat, p ≤ q ∧ q ≤ 9007199254740992 ∧ st.s.getD 5 .undef = vi .i64 p ∧ st.s.getD 6 .undef = vi .i64 q) (fun hc => ?_) (fun hc => ?_) ?_
  · simp only [go_sem, Nat.reduceLT, Nat.reduceEqDiff, reduceCtorEq, Int.reduceLT, Int.reduceEq, hs]
    exact ⟨trivial, by simp only [slot_len, hs], y, x, by omega, hx, by simp only [go_sem, Nat.reduceLT, Nat.reduceEqDiff, reduceCtorEq, Int.reduceLT, Int.reduceEq, hs], by simp only [go_sem, Nat.reduceLT, Nat.reduceEqDiff, reduceCtorEq, Int.reduceLT, Int.reduceEq, hs]⟩
  · simp only [go_sem, Nat.reduceLT, Nat.reduceEqDiff, reduceCtorEq, Int.reduceLT, Int.reduceEq, hs]
    exact ⟨trivial, by simp only [slot_len, hs], x, y, by omega, hy, by simp only [go_sem, Nat.reduceLT, Nat.reduceEqDiff, reduceCtorEq, Int.reduceLT, Int.reduceEq, hs], by simp only [go_sem, Nat.reduceLT, Nat.reduceEqDiff, reduceCtorEq, Int.reduceLT, Int.reduceEq, hs]⟩
  · rintro s h ⟨rfl, hs, p, q, hpq, hq, h5, h6⟩
    simp only at hs h5 h6
    simp only [go_sem, Nat.reduceLT, Nat.reduceEqDiff, reduceCtorEq, Int.reduceLT, Int.reduceEq, hs]
    refine X_draw rfl ?_
    obtain ⟨hk, hknown⟩ := known_f11
    obtain ⟨vp, hvp, hcp, hrp⟩ := num_pure p
    obtain ⟨vq, hvq, hcq, hrq⟩ := num_pure q
    rw [clamp_of p (by omega)] at hrp
    rw [clamp_of q (by omega)] at hrq
    have m1 : ((num p).length : Int) ≤ ((num q).length : Int) := by have := numF_mono 8 p q hpq; unfold num; omega
    have m2 : ((num q).length : Int) ≤ 8 := by have := num_len q; rw [clamp_of q (by omega)] at this; omega
    refine XD_callP clos_nil hknown res_cv ?_
    simp only [go_sem, Nat.reduceLT, Nat.reduceEqDiff, reduceCtorEq, Int.reduceLT, Int.reduceEq, hs, h5]
    refine XD_callP (by simp only [List.map, go_sem, Nat.reduceLT, Nat.reduceEqDiff, reduceCtorEq, Int.reduceLT, Int.reduceEq, hs]; exact clos_cv clos_nil) hcp hrp ?_
    simp only [go_sem, Nat.reduceLT, Nat.reduceEqDiff, reduceCtorEq, Int.reduceLT, Int.reduceEq, hs, h6]
    refine XD_callP (by simp only [List.map, go_sem, Nat.reduceLT, Nat.reduceEqDiff, reduceCtorEq, Int.reduceLT, Int.reduceEq, hs]; exact clos_cv clos_nil) hcq hrq ?_
    simp only [go_sem, Nat.reduceLT, Nat.reduceEqDiff, reduceCtorEq, Int.reduceLT, Int.reduceEq, hs, h5, h6, eB_len, m1]
    refine XD_callP (by simp only [List.map, go_sem, Nat.reduceLT, Nat.reduceEqDiff, reduceCtorEq, Int.reduceLT, Int.reduceEq, hs]; exact clos_cv clos_nil) hcp hrp ?_
    simp only [go_sem, Nat.reduceLT, Nat.reduceEqDiff, reduceCtorEq, Int.reduceLT, Int.reduceEq, hs, h5, h6]
    refine XD_callP (by simp only [List.map, go_sem, Nat.reduceLT, Nat.reduceEqDiff, reduceCtorEq, Int.reduceLT, Int.reduceEq, hs]; exact clos_cv clos_nil) hcq hrq ?_
    have e : (decide (((p : Nat) : Int) = ((q : Nat) : Int)) == decide (num p = num q)) = true := by
      rw [beq_iff_eq, decide_eq_decide, num_eq (by omega) hq]; omega
    simp only [go_sem, Nat.reduceLT, Nat.reduceEqDiff, reduceCtorEq, Int.reduceLT, Int.reduceEq, hs, h5, h6, e]
    refine XD_callP (by simp only [List.map, go_sem, Nat.reduceLT, Nat.reduceEqDiff, reduceCtorEq, Int.reduceLT, Int.reduceEq, hs]; exact clos_cv clos_nil) hcq hrq ?_
    simp only [go_sem, Nat.reduceLT, Nat.reduceEqDiff, reduceCtorEq, Int.reduceLT, Int.reduceEq, hs, h5, h6, eB_len, m2]
    exact rfl

end Go.V01

namespace Go.V01
open Go Go.Vm

section
variable {H : Type} {d0 d1 : DataW H} {u0 u1 : VV}
theorem order_in (h0 : DV Proofs.Try.prog 33 d0 u0) (h1 : DV Proofs.Try.prog 33 d1 u1) : ∃ h', call F 4 [u0, u1] [] = some (.ret (vb true), h') := by
  obtain ⟨a, rfl, ha⟩ := DV_u64 Proofs.Try.underlying33 h0
  obtain ⟨b, rfl, hb⟩ := DV_u64 Proofs.Try.underlying33 h1
  exact law_order a b ha hb
end
end Go.V01

set_option linter.unusedSimpArgs false
namespace Go.V01
open Go Go.Vm

/-! ### a number's bytes, and the way back -/

theorem getN_numF : ∀ j k n r at_ i acc, n < 128 ^ (j + 1) → (numF j n).length ≤ k → (0 < n ∨ i = 0) → acc + n * 128 ^ i ≤ 9007199254740992 →
    getN k (numF j n ++ r) at_ i acc = (acc + n * 128 ^ i, at_ + i + (numF j n).length, 0)
  | 0, 0, n, r, at_, i, acc, hn, hk, h0, hm => by simp [numF] at hk
  | 0, k + 1, n, r, at_, i, acc, hn, hk, h0, hm => by
    have hn' : n < 128 := by omega
    simp only [numF, List.cons_append, List.nil_append, getN, u8_toNat n (by omega), Nat.mod_eq_of_lt hn', hn', if_true]
    rw [if_neg (by omega)]
    rfl
  | j + 1, 0, n, r, at_, i, acc, hn, hk, h0, hm => by
    simp only [numF] at hk
    split at hk <;> simp at hk
  | j + 1, k + 1, n, r, at_, i, acc, hn, hk, h0, hm => by
    rw [Nat.pow_succ] at hn
    simp only [numF] at hk ⊢
    by_cases h : 127 < n
    · rw [if_pos h] at hk ⊢
      simp only [List.length_cons] at hk ⊢
      have e : acc + n % 128 * 128 ^ i + n / 128 * 128 ^ (i + 1) = acc + n * 128 ^ i := by
        have : n * 128 ^ i = (n % 128 + 128 * (n / 128)) * 128 ^ i := by rw [Nat.mod_add_div]
        rw [this, Nat.add_mul, Nat.pow_succ, Nat.add_assoc]
        congr 2
        rw [Nat.mul_comm (128 ^ i) 128, ← Nat.mul_assoc, Nat.mul_comm 128 (n / 128)]
      simp only [List.cons_append, getN, u8_toNat (128 + n % 128) (by omega)]
      rw [if_neg (by omega), show (128 + n % 128) % 128 = n % 128 by omega]
      rw [getN_numF j k (n / 128) r at_ (i + 1) (acc + n % 128 * 128 ^ i) (by omega) (by omega) (.inl (by omega)) (by rw [e]; exact hm), e]
      rw [show at_ + (i + 1) + (numF j (n / 128)).length = at_ + i + ((numF j (n / 128)).length + 1) by omega]
    · rw [if_neg h]
      have hn' : n < 128 := by omega
      simp only [List.cons_append, List.nil_append, getN, u8_toNat n (by omega), Nat.mod_eq_of_lt hn', hn', if_true]
      rw [if_neg (by omega)]
      rfl

/-- A number, wherever it stands. -/
theorem getNum_num (a r : List UInt8) (n : Nat) (h : n ≤ 9007199254740992) : getNum (a ++ num n ++ r) a.length = (n, a.length + (num n).length, 0) := by
  have hl := num_len n
  rw [clamp_of n h] at hl
  unfold getNum
  rw [if_neg (by simp only [List.length_append]; omega)]
  have : ((a.length : Int)).toNat = a.length := rfl
  rw [this, List.append_assoc, List.drop_left]
  unfold num at hl ⊢
  rw [getN_numF 8 8 n r a.length 0 0 (by rw [pow9]; omega) hl (.inr rfl) (by omega)]
  simp

theorem getN_short : ∀ (l : List UInt8) (k at_ i acc : Nat), (∀ c ∈ l, 128 ≤ c.toNat) → l.length < k → getN k l at_ i acc = (0, 0, 10)
  | _, 0, _, _, _, _, h => by simp at h
  | [], k + 1, _, _, _, _, _ => rfl
  | c :: r, k + 1, at_, i, acc, hc, h => by
    have h1 := hc c (by simp)
    simp only [getN]
    rw [if_neg (by omega)]
    exact getN_short r k _ _ _ (fun d hd => hc d (by simp [hd])) (by simpa using h)

theorem getN_zero : ∀ (l : List UInt8) (k at_ i acc : Nat), (∀ c ∈ l, 128 ≤ c.toNat) → l.length ≤ k → 0 < i + l.length → getN k (l ++ [0]) at_ i acc = (0, 0, 11)
  | [], 0, _, _, _, _, _, _ => rfl
  | c :: r, 0, _, _, _, _, h, _ => by simp at h
  | [], k + 1, at_, i, acc, _, _, hi => by
    have : 0 < i := by simpa using hi
    simp [getN, this]
  | c :: r, k + 1, at_, i, acc, hc, h, _ => by
    have h1 := hc c (by simp)
    simp only [List.cons_append, getN]
    rw [if_neg (by omega)]
    exact getN_zero r k _ _ _ (fun d hd => hc d (by simp [hd])) (by simpa using h) (by omega)

theorem numF_last : ∀ k n, n < 128 ^ (k + 1) → ∃ l c, numF k n = l ++ [u8 c] ∧ c < 128 ∧ ∀ d ∈ l, 128 ≤ d.toNat
  | 0, n, h => ⟨[], n, rfl, by omega, by simp⟩
  | k + 1, n, h => by
    rw [Nat.pow_succ] at h
    simp only [numF]
    split
    · obtain ⟨l, c, e, hc, hl⟩ := numF_last k (n / 128) (by omega)
      refine ⟨u8 (128 + n % 128) :: l, c, by rw [e]; rfl, hc, fun d hd => ?_⟩
      rcases List.mem_cons.1 hd with rfl | hd
      · rw [u8_toNat _ (by omega)]; omega
      · exact hl d hd
    · exact ⟨[], n, rfl, by omega, by simp⟩

theorem num_last (n : Int) : ∃ l c, num (clamp n) = l ++ [u8 c] ∧ c < 128 ∧ ∀ d ∈ l, 128 ≤ d.toNat :=
  numF_last 8 _ (by rw [pow9]; have := clamp_le n; omega)

theorem getNum_short {l : List UInt8} (h : ∀ c ∈ l, 128 ≤ c.toNat) (hl : l.length < 8) : getNum l 0 = (0, 0, 10) := by
  unfold getNum
  rw [if_neg (by omega)]
  exact getN_short _ _ _ _ _ (by simpa using h) (by simpa using hl)
theorem getNum_zero {l : List UInt8} (h : ∀ c ∈ l, 128 ≤ c.toNat) (hl : l.length ≤ 8) (h0 : l ≠ []) : getNum (l ++ [0]) 0 = (0, 0, 11) := by
  unfold getNum
  rw [if_neg (by simp; omega)]
  have : 0 < l.length := List.length_pos_iff.2 h0
  exact getN_zero l 8 _ _ _ h hl (by omega)

/-- A text, wherever it stands. -/
theorem getText_text (a r l : List UInt8) (most : Int) (hl : l.length ≤ 1000000000) : getText (a ++ text l ++ r) a.length most = if most < (l.length : Int) then ([], 0, 3) else (l, a.length + (text l).length, 0) := by
  have h1 : clamp (l.length : Int) = l.length := clamp_of _ (by omega)
  have e : getNum (a ++ text l ++ r) a.length = (l.length, a.length + (num l.length).length, 0) := by
    unfold text
    rw [h1]
    have := getNum_num a (l ++ r) l.length (by omega)
    simpa [List.append_assoc] using this
  unfold getText
  rw [e]
  simp only [ne_eq, not_true_eq_false, if_false]
  split
  · rfl
  · have hb : ((a ++ text l ++ r).length : Int) - ((a.length + (num l.length).length : Nat) : Int) = ((l.length + r.length : Nat) : Int) := by
      unfold text
      rw [h1]
      simp only [List.length_append]
      omega
    rw [if_neg (by rw [hb]; omega)]
    congr 1
    · unfold text
      rw [h1]
      have : a ++ (num l.length ++ l) ++ r = (a ++ num l.length) ++ (l ++ r) := by simp
      rw [this, show a.length + (num l.length).length = (a ++ num l.length).length by simp, List.drop_left, List.take_left]
    · congr 1
      unfold text
      rw [h1]
      simp only [List.length_append]; omega

theorem getText_cut (l : List UInt8) (hl : l.length ≤ 200) : (getText ((text l).take ((text l).length - 1)) 0 1000).2.2 = 10 := by
  have h1 : clamp (l.length : Int) = l.length := clamp_of _ (by omega)
  by_cases h0 : l = []
  · subst h0; rfl
  · have hp : 0 < l.length := List.length_pos_iff.2 h0
    have e1 : (text l).take ((text l).length - 1) = num l.length ++ l.take (l.length - 1) := by
      unfold text
      rw [h1, List.length_append, List.take_append, List.take_of_length_le (by omega)]
      congr 2
      omega
    have e2 : getNum ((text l).take ((text l).length - 1)) 0 = (l.length, (num l.length).length, 0) := by
      rw [e1]
      have := getNum_num [] (l.take (l.length - 1)) l.length (by omega)
      simpa using this
    unfold getText
    rw [e2]
    simp only [ne_eq, not_true_eq_false, if_false]
    rw [if_neg (by omega), if_pos]
    rw [e1]
    simp only [List.length_append, List.length_take]
    omega

end Go.V01

set_option linter.unusedSimpArgs false
namespace Go.V01
open Go Go.Vm

theorem eB_ne {l : List UInt8} : eB l ≠ [] ↔ l ≠ [] := by cases l <;> simp [eB]
theorem eB_take {l : List UInt8} {n : Nat} : (eB l).take n = eB (l.take n) := by simp [eB, List.map_take]
theorem eB_drop {l : List UInt8} {n : Nat} : (eB l).drop n = eB (l.drop n) := by simp [eB, List.map_drop]
theorem num_ne (n : Nat) : num n ≠ [] := numF_ne 8 n
theorem wrap_pred {n : Nat} (h : 0 < n) (h2 : n ≤ 1000000000) : IntKind.i64.wrap ((n : Int) - 1) = ((n - 1 : Nat) : Int) := by
  rw [IntWalk.i64_in _ (by omega)]; omega

theorem law_short (n : Int) (l : List UInt8) (m : UInt8) : ∃ h', call F 3 [vi .i64 n, txt l, vi .u8 m.toNat] [] = some (.ret (vb true), h') := by
  obtain ⟨hk, hknown⟩ := known_f11
  refine call_V (fn := f3) rfl ?_
  simp only [f3]
  generalize hs0 : ([vi .i64 n, txt l, vi .u8 m.toNat] ++ List.replicate _ VV.undef : List VV) = s
  have hs : s.length = 112 := by rw [← hs0]; rfl
  have h0 : s.getD 0 .undef = vi .i64 n := by rw [← hs0]; rfl
  have h1 : s.getD 1 .undef = txt l := by rw [← hs0]; rfl
  have h2 : s.getD 2 .undef = vi .u8 m.toNat := by rw [← hs0]; rfl
  clear hs0
  simp only [go_sem, Nat.reduceLT, Nat.reduceEqDiff, reduceCtorEq, Int.reduceLT, Int.reduceEq, hs, h0, h1, h2]
  refine XB_dec (fun hc => ?_) (fun hc => ?_)
  · simp only [go_sem, Nat.reduceLT, Nat.reduceEqDiff, reduceCtorEq, Int.reduceLT, Int.reduceEq, hs]
    refine XO_callP clos_nil hknown res_cv ?_
    simp only [go_sem, Nat.reduceLT, Nat.reduceEqDiff, reduceCtorEq, Int.reduceLT, Int.reduceEq, hs]
    exact rfl
  · have hl : l.length ≤ 200 := by omega
    obtain ⟨v1, g1, hc1, hr1⟩ := num_pure n
    obtain ⟨v2, g2, hc2, hr2⟩ := text_pure l (by omega)
    have hB := num_len n
    obtain ⟨B0, c, eB0, hc128, hB0⟩ := num_last n
    have hBn : num (clamp n) ≠ [] := num_ne _
    generalize num (clamp n) = B at *
    have hBp : 0 < B.length := List.length_pos_iff.2 hBn
    have hT : 0 < (text l).length := by
      have := text_ne l
      rw [eB_ne] at this
      exact List.length_pos_iff.2 this
    have hT2 : (text l).length ≤ 300 := by
      unfold text
      have := num_len l.length
      simp only [List.length_append]; omega
    have hlen : ¬ (B.length : Int) = 0 := by omega
    simp only [go_sem, Nat.reduceLT, Nat.reduceEqDiff, reduceCtorEq, Int.reduceLT, Int.reduceEq, hs, h0, h1, h2]
    refine XO_callP (by simp only [List.map, go_sem, Nat.reduceLT, Nat.reduceEqDiff, reduceCtorEq, Int.reduceLT, Int.reduceEq, hs, h0]; exact clos_cv clos_nil) hc1 hr1 ?_
    simp only [go_sem, Nat.reduceLT, Nat.reduceEqDiff, reduceCtorEq, Int.reduceLT, Int.reduceEq, hs, h0, h1, h2, eB_len, hlen, wrap_pred hBp (by omega)]
    obtain ⟨v3, hv3, e3⟩ := (SlV.sl (z := 1) (es := eB B) (ex := false)).upto (h := []) (k := .i64) (b := ((B.length - 1 : Nat) : Int)) (by omega) (by rw [eB_len]; omega)
    rw [e3]
    rw [eB_take] at hv3
    simp only [go_sem, Nat.reduceLT, Nat.reduceEqDiff, reduceCtorEq, Int.reduceLT, Int.reduceEq, hs]
    have hB1 : B.take ((B.length - 1 : Nat) : Int).toNat = B0 := by
      rw [eB0]; simp
    rw [hB1] at hv3
    have hB0l : B0.length < 8 := by rw [eB0] at hB; simp at hB; omega
    refine XO_callP (by simp only [List.map, go_sem, Nat.reduceLT, Nat.reduceEqDiff, reduceCtorEq, Int.reduceLT, Int.reduceEq, hs]; exact hv3.clos (clos_cv clos_nil)) (num_f13 B0 v3 hv3 0 [] (by omega)) rfl ?_
    rw [getNum_short hB0 hB0l]
    simp only [go_sem, Nat.reduceLT, Nat.reduceEqDiff, reduceCtorEq, Int.reduceLT, Int.reduceEq, hs, h0, h1, h2]
    refine XO_callP (by simp only [List.map, go_sem, Nat.reduceLT, Nat.reduceEqDiff, reduceCtorEq, Int.reduceLT, Int.reduceEq, hs, h1]; exact clos_cv clos_nil) hc2 hr2 ?_
    simp only [go_sem, Nat.reduceLT, Nat.reduceEqDiff, reduceCtorEq, Int.reduceLT, Int.reduceEq, hs, h0, h1, h2, eB_len, wrap_pred hT (by omega)]
    obtain ⟨v4, hv4, e4⟩ := (SlV.sl (z := 1) (es := eB (text l)) (ex := false)).upto (h := []) (k := .i64) (b := (((text l).length - 1 : Nat) : Int)) (by omega) (by rw [eB_len]; omega)
    rw [e4]
    rw [eB_take] at hv4
    simp only [go_sem, Nat.reduceLT, Nat.reduceEqDiff, reduceCtorEq, Int.reduceLT, Int.reduceEq, hs]
    refine XO_callP (by simp only [List.map, go_sem, Nat.reduceLT, Nat.reduceEqDiff, reduceCtorEq, Int.reduceLT, Int.reduceEq, hs]; exact hv4.clos (clos_cv (clos_cv clos_nil))) (text_f15 _ v4 hv4 0 1000 [] (by rw [List.length_take]; omega)) rfl ?_
    have g10 := getText_cut l hl
    rw [show (((text l).length - 1 : Nat) : Int).toNat = (text l).length - 1 from rfl]
    rw [g10]
    generalize getText ((text l).take ((text l).length - 1)) 0 1000 = y
    simp only [go_sem, Nat.reduceLT, Nat.reduceEqDiff, reduceCtorEq, Int.reduceLT, Int.reduceEq, hs]
    refine XO_appG (BufG.nil [] 1) (new := eB B) (by simp only [go_sem, Nat.reduceLT, Nat.reduceEqDiff, reduceCtorEq, Int.reduceLT, Int.reduceEq, hs]) (by simp only [go_sem, Nat.reduceLT, Nat.reduceEqDiff, reduceCtorEq, Int.reduceLT, Int.reduceEq, hs]) (by simp only [eB_len, List.length_nil]; omega) (by simp only [eB_len, List.length_nil]; omega) (fun v5 h5 hb5 _ _ => ?_)
    rw [List.nil_append] at hb5
    have ho5 := hb5.own (eB_ne.2 hBn)
    have hlast : B[B.length - 1]? = some (u8 c) := by
      rw [eB0]; simp
    obtain ⟨p, hp1, hp2, hp3⟩ := ho5.byte hlast
    simp only [go_sem, Nat.reduceLT, Nat.reduceEqDiff, reduceCtorEq, Int.reduceLT, Int.reduceEq, hs, hb5.ln, eB_len, wrap_pred hBp (by omega), hp1, hp2, u8_toNat c (by omega), u8_or128 c (by omega)]
    obtain ⟨h6, e6, ho6⟩ := hp3 (u8 (128 + c % 128))
    rw [u8_toNat _ (by omega)] at e6
    rw [e6]
    simp only [go_sem, Nat.reduceLT, Nat.reduceEqDiff, reduceCtorEq, Int.reduceLT, Int.reduceEq, hs]
    have eL : B.set (B.length - 1) (u8 (128 + c % 128)) = B0 ++ [u8 (128 + c % 128)] := by
      rw [eB0]; simp
    rw [eL] at ho6
    refine XO_appG (ho6.bufG (eB_ne.2 (by simp))) (new := eB [0]) (by simp only [go_sem, Nat.reduceLT, Nat.reduceEqDiff, reduceCtorEq, Int.reduceLT, Int.reduceEq, hs]) (by simp only [go_sem, Nat.reduceLT, Nat.reduceEqDiff, reduceCtorEq, Int.reduceLT, Int.reduceEq, hs]; rfl) (by simp only [eB_len, List.length_append, List.length_singleton]; omega) (by simp only [eB_len, List.length_append, List.length_singleton]; omega) (fun v7 h7 hb7 _ _ => ?_)
    rw [← eB_append] at hb7
    obtain ⟨g8, e8⟩ := hb7.slV
    simp only [go_sem, Nat.reduceLT, Nat.reduceEqDiff, reduceCtorEq, Int.reduceLT, Int.reduceEq, hs]
    have hge : ∀ d ∈ B0 ++ [u8 (128 + c % 128)], 128 ≤ d.toNat := by
      intro d hd
      rcases List.mem_append.1 hd with hd | hd
      · exact hB0 d hd
      · simp only [List.mem_singleton] at hd
        subst hd
        rw [u8_toNat _ (by omega)]; omega
    refine XO_callP (by simp only [List.map, go_sem, Nat.reduceLT, Nat.reduceEqDiff, reduceCtorEq, Int.reduceLT, Int.reduceEq, hs]; exact closAs_cons e8 (clos_cv clos_nil)) (num_f13 _ _ slV_SlV 0 [] (by simp only [List.length_append, List.length_singleton]; omega)) rfl ?_
    rw [getNum_zero hge (by simp only [List.length_append, List.length_singleton]; omega) (by simp)]
    have em : IntKind.i64.wrap (m.toNat : Int) = (m.toNat : Int) := IntWalk.i64_in _ (by have := m.toNat_lt; omega)
    simp only [go_sem, Nat.reduceLT, Nat.reduceEqDiff, reduceCtorEq, Int.reduceLT, Int.reduceEq, hs, h2, em]
    refine XO_callP (by simp only [List.map, go_sem, Nat.reduceLT, Nat.reduceEqDiff, reduceCtorEq, Int.reduceLT, Int.reduceEq, hs]; exact clos_cv (clos_cv (clos_cv clos_nil))) (text_f15 _ _ SlV.sl 0 m.toNat [] (by omega)) rfl ?_
    have gt := getText_text [] [] l m.toNat (by omega)
    simp only [List.nil_append, List.append_nil, List.length_nil, Nat.zero_add] at gt
    rw [show ((0 : Nat) : Int) = 0 from rfl] at gt
    rw [gt]
    by_cases hm : (m.toNat : Int) < (l.length : Int)
    · simp only [go_sem, Nat.reduceLT, Nat.reduceEqDiff, reduceCtorEq, Int.reduceLT, Int.reduceEq, hs, hm]
      refine XO_callP clos_nil hknown res_cv ?_
      simp only [go_sem, Nat.reduceLT, Nat.reduceEqDiff, reduceCtorEq, Int.reduceLT, Int.reduceEq, hs, h1, h2, em, hm, Int.cast_ofNat_Int, Int.ofNat_zero, BEq.rfl, beq_self_eq_true]
      exact rfl
    · simp only [go_sem, Nat.reduceLT, Nat.reduceEqDiff, reduceCtorEq, Int.reduceLT, Int.reduceEq, hs, hm]
      refine XO_callP clos_nil hknown res_cv ?_
      simp only [go_sem, Nat.reduceLT, Nat.reduceEqDiff, reduceCtorEq, Int.reduceLT, Int.reduceEq, hs, h1, h2, em, hm, Int.cast_ofNat_Int, Int.ofNat_zero, BEq.rfl, beq_self_eq_true]
      exact rfl

theorem short_in {H : Type} {d0 d1 d2 : DataW H} {u0 u1 u2 : VV} (h0 : DV Proofs.Try.prog 3 d0 u0) (h1 : DV Proofs.Try.prog 9 d1 u1) (h2 : DV Proofs.Try.prog 5 d2 u2) : ∃ h', call F 3 [u0, u1, u2] [] = some (.ret (vb true), h') := by
  obtain ⟨n, rfl, _⟩ := DV_i64 Proofs.Try.underlying3 h0
  obtain ⟨l, rfl, _⟩ := DV_str Proofs.Try.underlying9 h1
  obtain ⟨m, rfl⟩ := DV_u8 Proofs.Try.underlying5 h2
  exact law_short n l m

end Go.V01

set_option linter.unusedSimpArgs false
namespace Go.V01
open Go Go.Vm

/-! ### rows of choices -/

def rowK (x : UInt8) : List UInt8 := [u8 (97 + x.toNat % 16), u8 (97 + x.toNat / 16 % 4)]
def valF (y : UInt8) (n : Nat) : List UInt8 := (List.range n).map fun j => u8 ((y.toNat + j) % 256)
def rowV (x y : UInt8) : List UInt8 := valF y (if 230 < x.toNat then 100 + y.toNat % 50 else y.toNat % 40)
def rowL : Nat → List UInt8 → List (List UInt8 × List UInt8)
  | n + 1, x :: y :: r => (rowK x, rowV x y) :: rowL n r
  | _, _ => []

theorem valF_len (y : UInt8) (n : Nat) : (valF y n).length = n := by simp [valF]
theorem rowV_len (x y : UInt8) : (rowV x y).length ≤ 149 := by
  unfold rowV
  rw [valF_len]
  split <;> omega
theorem rowL_len : ∀ n c, (rowL n c).length ≤ n
  | 0, _ => by simp [rowL]
  | n + 1, [] => by simp [rowL]
  | n + 1, [_] => by simp [rowL]
  | n + 1, x :: y :: r => by simp only [rowL, List.length_cons]; have := rowL_len n r; omega

theorem wrap_u8_nat (n : Nat) : IntKind.u8.wrap (n : Int) = ((n % 256 : Nat) : Int) := by
  rw [IntKind.wrap_u8]; omega

theorem f17_fill (c : List UInt8) (vc : VV) (hc : SlV 1 (eB c) vc) (i : Nat) (y : UInt8) (hy : c[i + 1]? = some y) (hi : i ≤ 100) (h0 : Heap) : ∀ (d k : Nat) (vl : List UInt8) (s : List VV) (Q : Pst),
    vl.length = k + d → vl.length ≤ 200 → (∀ j, j < k → vl[j]? = some (u8 ((y.toNat + j) % 256))) → s.length = 82 → s.getD 0 .undef = vc → s.getD 6 .undef = vi .i64 i → s.getD 7 .undef = .own h0.length 0 0 vl.length true → s.getD 8 .undef = vi .i64 k →
    (∀ s', s'.length = 82 → (∀ j, j < 8 → s'.getD j .undef = s.getD j .undef) → Q (.exit 2) ⟨s', h0 ++ [.arr 1 (eB (valF y vl.length)) 0 false]⟩) →
    X F (.loop f17_0) ⟨s, h0 ++ [.arr 1 (eB vl) 0 false]⟩ Q := by
  intro d
  induction d with
  | zero =>
    intro k vl s Q hl hl2 hv hs h_0 h6 h7 h8 hQ
    rw [X_loop, X_eq f17_0.eq_1]
    have hlt : ¬ (k : Int) < (vl.length : Int) := by omega
    simp only [go_sem, Nat.reduceLT, Nat.reduceEqDiff, reduceCtorEq, Int.reduceLT, Int.reduceEq, hs, h7, h8, hlt]
    have e : vl = valF y vl.length := by
      apply List.ext_getElem?
      intro j
      by_cases hj : j < k
      · rw [hv j hj]
        unfold valF
        rw [List.getElem?_map, List.getElem?_range (by omega)]
        rfl
      · rw [List.getElem?_eq_none (by omega), List.getElem?_eq_none (by rw [valF_len]; omega)]
    rw [← e] at hQ
    refine hQ _ (by simp only [slot_len, hs]) (fun j hj => ?_)
    have : ∀ m, 8 ≤ m → m ≠ j := by omega
    rw [slot_ne (this _ (by decide)), slot_ne (this _ (by decide)), slot_ne (this _ (by decide)), slot_ne (this _ (by decide))]
  | succ d ih =>
    intro k vl s Q hl hl2 hv hs h_0 h6 h7 h8 hQ
    rw [X_loop, X_eq f17_0.eq_1]
    have hlt : (k : Int) < (vl.length : Int) := by omega
    have e1 : IntKind.i64.wrap ((i : Int) + 1) = ((i + 1 : Nat) : Int) := by rw [IntWalk.i64_in _ (by omega)]; omega
    have e2 : IntKind.i64.wrap ((k : Int) + 1) = ((k + 1 : Nat) : Int) := by rw [IntWalk.i64_in _ (by omega)]; omega
    simp only [go_sem, Nat.reduceLT, Nat.reduceEqDiff, reduceCtorEq, Int.reduceLT, Int.reduceEq, hs, h_0, h6, h7, h8, hlt, e1, e2]
    rw [hc.ia (e := byteCell y) (by omega) (by exact eB_get hy)]
    have e3 : IntKind.u8.wrap ((y.toNat : Int) + IntKind.u8.wrap (k : Int)) = (((u8 ((y.toNat + k) % 256)).toNat : Nat) : Int) := by
      rw [u8_toNat _ (by omega), wrap_u8_nat, ← Int.natCast_add, wrap_u8_nat]; omega
    simp only [go_sem, Nat.reduceLT, Nat.reduceEqDiff, reduceCtorEq, Int.reduceLT, Int.reduceEq, hs, h_0, h6, h7, h8, byteCell, e3]
    rw [ia_last (by omega)]
    simp only [go_sem, Nat.reduceLT, Nat.reduceEqDiff, reduceCtorEq, Int.reduceLT, Int.reduceEq, hs, h_0, h6, h7, h8, byteCell, e3]
    rw [st_last (by omega)]
    simp only [go_sem, Nat.reduceLT, Nat.reduceEqDiff, reduceCtorEq, Int.reduceLT, Int.reduceEq, hs, h_0, h6, h7, h8, e2]
    have hl3 : (vl.set k (u8 ((y.toNat + k) % 256))).length = vl.length := List.length_set
    rw [← hl3] at hQ
    refine ih (k + 1) _ _ Q (by rw [hl3]; omega) (by rw [hl3]; omega) ?_ (by simp only [slot_len, hs]) (by simp only [go_sem, Nat.reduceLT, Nat.reduceEqDiff, reduceCtorEq, Int.reduceLT, Int.reduceEq, h_0]) (by simp only [go_sem, Nat.reduceLT, Nat.reduceEqDiff, reduceCtorEq, Int.reduceLT, Int.reduceEq, h6]) (by simp only [go_sem, Nat.reduceLT, Nat.reduceEqDiff, reduceCtorEq, Int.reduceLT, Int.reduceEq, h7, hl3]) (by simp only [go_sem, Nat.reduceLT, Nat.reduceEqDiff, reduceCtorEq, Int.reduceLT, Int.reduceEq, hs]) ?_
    · intro j hj
      by_cases hjk : j = k
      · subst hjk
        rw [List.getElem?_set_self (by omega)]
      · rw [List.getElem?_set_ne (by omega)]
        exact hv j (by omega)
    · intro s' hs' hj'
      refine hQ s' hs' (fun j hj => ?_)
      rw [hj' j hj]
      have : ∀ m, 8 ≤ m → m ≠ j := by omega
      simp only [slot_ne (this _ (by decide : 8 ≤ 44)), slot_ne (this _ (by decide : 8 ≤ 45)), slot_ne (this _ (by decide : 8 ≤ 46)), slot_ne (this _ (by decide : 8 ≤ 47)), slot_ne (this _ (by decide : 8 ≤ 48)), slot_ne (this _ (by decide : 8 ≤ 49)), slot_ne (this _ (by decide : 8 ≤ 50)), slot_ne (this _ (by decide : 8 ≤ 51)),
        slot_ne (this _ (by decide : 8 ≤ 52)), slot_ne (this _ (by decide : 8 ≤ 53)), slot_ne (this _ (by decide : 8 ≤ 54)), slot_ne (this _ (by decide : 8 ≤ 55)), slot_ne (this _ (by decide : 8 ≤ 56)), slot_ne (this _ (by decide : 8 ≤ 57)), slot_ne (this _ (by decide : 8 ≤ 58)), slot_ne (this _ (by decide : 8 ≤ 59)), slot_ne (this _ (by decide : 8 ≤ 60)), slot_ne (this _ (by decide : 8 ≤ 8))]

end Go.V01

set_option linter.unusedSimpArgs false
namespace Go.V01
open Go Go.Vm

theorem RowsE.snoc {l : List (List CV)} {k : List (List UInt8 × List UInt8)} (h : RowsE l k) {e : List CV} {p : List UInt8 × List UInt8} (hp : rowE e p) : RowsE (l ++ [e]) (k ++ [p]) := by
  induction h with
  | nil => exact .cons hp .nil
  | cons h _ ih => exact .cons h ih

theorem bd_co {a b : VV} {u : CV} {i g o l : Nat} {e : Bool} : bdO [a, b] [(0, 1, .cv u), (1, 1, .own i g o l e)] = some (.agg [.cv u, .own i g o l e]) := rfl
theorem mko_agg2_own {hh : Heap} {z0 z1 : VV} {u : CV} {els : List (List CV)} {n : Nat} (hn : els.length = n) :
    mkoO (hh ++ [.arr 1 els 0 false]) 2 1 [z0, z1] [(0, 2, .agg [.cv u, .own hh.length 0 0 n true])] = some (.own (hh ++ [VO.arr 1 els 0 true]).length 0 0 1 true, hh ++ [.arr 1 els 0 true] ++ [.arr 2 [[u, .sl 1 els true]] 0 false]) := by
  have e1 : fill [z0, z1] [(0, 2, .agg [.cv u, .own hh.length 0 0 n true])] = some [.cv u, .own hh.length 0 0 n true] := rfl
  have e2 : closL (hh ++ [.arr 1 els 0 false]) [.cv u, .own hh.length 0 0 n true] = some ([u, .sl 1 els true], hh ++ [.arr 1 els 0 true]) := by
    have e3 : ∀ (h : Heap) (c : CV), clos h (.cv c) = some (c, h) := fun _ _ => rfl
    simp only [closL, e3, clos_last hn]
  simp only [mkoO, e1, e2]
  rfl
theorem src_last2 {hh : Heap} {e : List CV} : srcOf (hh ++ [.arr 2 [e] 0 false]) 2 (.own hh.length 0 0 1 true) = some [e] := by
  simp [srcOf, elsOf]

theorem f17_loop (c : List UInt8) (vc : VV) (hc : SlV 1 (eB c) vc) (n : Nat) (hn : n ≤ 40) : ∀ (m i : Nat) (els : List (List CV)) (kv : List (List UInt8 × List UInt8)) (h : Heap) (v : VV) (s : List VV) (Q : Pst),
    i + 2 * m = 2 * n → els.length + m ≤ n → RowsE els kv → BufG h 2 els v → s.length = 82 → s.getD 0 .undef = vc → s.getD 1 .undef = vi .i64 n → s.getD 5 .undef = v → s.getD 6 .undef = vi .i64 i →
    (∀ s' h' v' els', s'.length = 82 → s'.getD 5 .undef = v' → BufG h' 2 els' v' → RowsE els' (kv ++ rowL m (c.drop i)) → Q (.exit 0) ⟨s', h'⟩) →
    X F (.loop f17_1) ⟨s, h⟩ Q := by
  intro m
  induction m with
  | zero =>
    intro i els kv h v s Q him hel hR hb hs h0 h1 h5 h6 hQ
    rw [X_loop, X_eq f17_1.eq_1]
    have e1 : IntKind.i64.wrap ((i : Int) + 1) = ((i + 1 : Nat) : Int) := by rw [IntWalk.i64_in _ (by omega)]; omega
    have e2 : IntKind.i64.wrap (2 * (n : Int)) = ((2 * n : Nat) : Int) := by rw [IntWalk.i64_in _ (by omega)]; omega
    have hlt : ¬ (i : Int) < ((2 * n : Nat) : Int) := by omega
    have fin : ∀ s', s'.length = 82 → s'.getD 5 .undef = v → Q (.exit 0) ⟨s', h⟩ := by
      intro s' hs' h5'
      refine hQ s' h v els hs' h5' hb ?_
      simp only [rowL, List.append_nil]; exact hR
    by_cases hl : ((i + 1 : Nat) : Int) < (c.length : Int)
    · simp only [go_sem, Nat.reduceLT, Nat.reduceEqDiff, reduceCtorEq, Int.reduceLT, Int.reduceEq, hs, h0, h1, h5, h6, e1, e2, hc.ln, eB_len, hl, hlt]
      exact fin _ (by simp only [slot_len, hs]) (by simp only [go_sem, Nat.reduceLT, Nat.reduceEqDiff, reduceCtorEq, Int.reduceLT, Int.reduceEq, h5])
    · simp only [go_sem, Nat.reduceLT, Nat.reduceEqDiff, reduceCtorEq, Int.reduceLT, Int.reduceEq, hs, h0, h1, h5, h6, e1, e2, hc.ln, eB_len, hl, hlt]
      exact fin _ (by simp only [slot_len, hs]) (by simp only [go_sem, Nat.reduceLT, Nat.reduceEqDiff, reduceCtorEq, Int.reduceLT, Int.reduceEq, h5])
  | succ m ih =>
    intro i els kv h v s Q him hel hR hb hs h0 h1 h5 h6 hQ
    rw [X_loop, X_eq f17_1.eq_1]
    have e1 : IntKind.i64.wrap ((i : Int) + 1) = ((i + 1 : Nat) : Int) := by rw [IntWalk.i64_in _ (by omega)]; omega
    have e2 : IntKind.i64.wrap (2 * (n : Int)) = ((2 * n : Nat) : Int) := by rw [IntWalk.i64_in _ (by omega)]; omega
    have e3 : IntKind.i64.wrap ((i : Int) + 2) = ((i + 2 : Nat) : Int) := by rw [IntWalk.i64_in _ (by omega)]; omega
    have hlt : (i : Int) < ((2 * n : Nat) : Int) := by omega
    by_cases hl : ((i + 1 : Nat) : Int) < (c.length : Int)
    · have hi1 : i + 1 < c.length := by omega
      obtain ⟨x, hx⟩ : ∃ x, c[i]? = some x := ⟨_, List.getElem?_eq_getElem (by omega)⟩
      obtain ⟨y, hy⟩ : ∃ y, c[i + 1]? = some y := ⟨_, List.getElem?_eq_getElem hi1⟩
      have hd : c.drop i = x :: y :: c.drop (i + 2) := by
        rw [List.drop_eq_getElem_cons (by omega), List.drop_eq_getElem_cons (by omega)]
        rw [List.getElem?_eq_getElem (by omega)] at hx hy
        cases hx; cases hy; rfl
      have hx256 := x.toNat_lt
      have hy256 := y.toNat_lt
      simp only [go_sem, Nat.reduceLT, Nat.reduceEqDiff, reduceCtorEq, Int.reduceLT, Int.reduceEq, hs, h0, h1, h5, h6, e1, e2, hc.ln, eB_len, hl, hlt]
      have iy : ∀ h : Heap, iaO h 1 vc (vi .i64 ((i + 1 : Nat) : Int)) = some (.rptr (byteCell y), h) := fun h => hc.ia (by omega) (by exact eB_get hy)
      have ix : ∀ h : Heap, iaO h 1 vc (vi .i64 (i : Int)) = some (.rptr (byteCell x), h) := fun h => hc.ia (by omega) (by exact eB_get hx)
      have m40 : IntKind.i64.wrap ((y.toNat : Int).tmod 40) = ((y.toNat % 40 : Nat) : Int) := by
        rw [Int.tmod_eq_emod_of_nonneg (by omega), IntWalk.i64_in _ (by omega)]; omega
      have m50 : IntKind.i64.wrap (100 + IntKind.i64.wrap ((y.toNat : Int).tmod 50)) = ((100 + y.toNat % 50 : Nat) : Int) := by
        have : IntKind.i64.wrap ((y.toNat : Int).tmod 50) = ((y.toNat % 50 : Nat) : Int) := by
          rw [Int.tmod_eq_emod_of_nonneg (by omega), IntWalk.i64_in _ (by omega)]; omega
        rw [this, IntWalk.i64_in _ (by omega)]; omega
      simp only [go_sem, Nat.reduceLT, Nat.reduceEqDiff, reduceCtorEq, Int.reduceLT, Int.reduceEq, hs, h0, h1, h5, h6, e1, iy, byteCell, m40]
      refine XO_mks (k := .i64) (k' := .i64) (a := y.toNat % 40) (by simp only [go_sem, Nat.reduceLT, Nat.reduceEqDiff, reduceCtorEq, Int.reduceLT, Int.reduceEq, hs]) (by simp only [go_sem, Nat.reduceLT, Nat.reduceEqDiff, reduceCtorEq, Int.reduceLT, Int.reduceEq, hs]) (by omega) (by omega) ?_
      rw [eB_replicate]
      simp only [go_sem, Nat.reduceLT, Nat.reduceEqDiff, reduceCtorEq, Int.reduceLT, Int.reduceEq, hs, h0, h1, h5, h6, e1, ix, byteCell]
      refine XB_cut (fun st => ∃ hh L, st.h = hh ++ [.arr 1 (eB (List.replicate L 0)) 0 false] ∧ BufG hh 2 els v ∧ L = (if 230 < x.toNat then 100 + y.toNat % 50 else y.toNat % 40) ∧ st.s.length = 82 ∧ st.s.getD 0 .undef = vc ∧ st.s.getD 1 .undef = vi .i64 n ∧ st.s.getD 5 .undef = v ∧ st.s.getD 6 .undef = vi .i64 i ∧ st.s.getD 7 .undef = .own hh.length 0 0 L true) (fun hc' => ?_) (fun hc' => ?_) ?_
      · have hgt : 230 < x.toNat := by omega
        simp only [go_sem, Nat.reduceLT, Nat.reduceEqDiff, reduceCtorEq, Int.reduceLT, Int.reduceEq, hs, h0, h1, h5, h6, e1, iy, byteCell, m50]
        refine XO_mks (k := .i64) (k' := .i64) (a := 100 + y.toNat % 50) (by simp only [go_sem, Nat.reduceLT, Nat.reduceEqDiff, reduceCtorEq, Int.reduceLT, Int.reduceEq, hs]) (by simp only [go_sem, Nat.reduceLT, Nat.reduceEqDiff, reduceCtorEq, Int.reduceLT, Int.reduceEq, hs]) (by omega) (by omega) ?_
        rw [eB_replicate]
        simp only [go_sem, Nat.reduceLT, Nat.reduceEqDiff, reduceCtorEq, Int.reduceLT, Int.reduceEq, hs]
        exact ⟨_, _, rfl, hb.push _, by rw [if_pos hgt], by simp only [slot_len, hs], by simp only [go_sem, Nat.reduceLT, Nat.reduceEqDiff, reduceCtorEq, Int.reduceLT, Int.reduceEq, h0], by simp only [go_sem, Nat.reduceLT, Nat.reduceEqDiff, reduceCtorEq, Int.reduceLT, Int.reduceEq, h1], by simp only [go_sem, Nat.reduceLT, Nat.reduceEqDiff, reduceCtorEq, Int.reduceLT, Int.reduceEq, h5], by simp only [go_sem, Nat.reduceLT, Nat.reduceEqDiff, reduceCtorEq, Int.reduceLT, Int.reduceEq, h6], by simp only [go_sem, Nat.reduceLT, Nat.reduceEqDiff, reduceCtorEq, Int.reduceLT, Int.reduceEq, hs]⟩
      · have hgt : ¬ 230 < x.toNat := by omega
        simp only [go_sem, Nat.reduceLT, Nat.reduceEqDiff, reduceCtorEq, Int.reduceLT, Int.reduceEq, hs]
        exact ⟨_, _, rfl, hb, by rw [if_neg hgt], by simp only [slot_len, hs], by simp only [go_sem, Nat.reduceLT, Nat.reduceEqDiff, reduceCtorEq, Int.reduceLT, Int.reduceEq, h0], by simp only [go_sem, Nat.reduceLT, Nat.reduceEqDiff, reduceCtorEq, Int.reduceLT, Int.reduceEq, h1], by simp only [go_sem, Nat.reduceLT, Nat.reduceEqDiff, reduceCtorEq, Int.reduceLT, Int.reduceEq, h5], by simp only [go_sem, Nat.reduceLT, Nat.reduceEqDiff, reduceCtorEq, Int.reduceLT, Int.reduceEq, h6], by simp only [go_sem, Nat.reduceLT, Nat.reduceEqDiff, reduceCtorEq, Int.reduceLT, Int.reduceEq, hs]⟩
      · clear iy ix
        rintro s h' ⟨hh, L, rfl, hb, hL, hs, h0, h1, h5, h6, h7⟩
        simp only at hs h0 h1 h5 h6 h7
        have hL2 : L ≤ 149 := by rw [hL]; split <;> omega
        have hrep : (List.replicate L (0 : UInt8)).length = L := List.length_replicate
        simp only [go_sem, Nat.reduceLT, Nat.reduceEqDiff, reduceCtorEq, Int.reduceLT, Int.reduceEq, hs]
        refine f17_fill c vc hc i y hy (by omega) hh L 0 (List.replicate L 0) _ _ (by rw [hrep]; omega) (by rw [hrep]; omega) (fun j hj => by omega) (by simp only [slot_len, hs]) (by simp only [go_sem, Nat.reduceLT, Nat.reduceEqDiff, reduceCtorEq, Int.reduceLT, Int.reduceEq, h0]) (by simp only [go_sem, Nat.reduceLT, Nat.reduceEqDiff, reduceCtorEq, Int.reduceLT, Int.reduceEq, h6]) (by simp only [go_sem, Nat.reduceLT, Nat.reduceEqDiff, reduceCtorEq, Int.reduceLT, Int.reduceEq, h7, hrep]) (by simp only [go_sem, Nat.reduceLT, Nat.reduceEqDiff, reduceCtorEq, Int.reduceLT, Int.reduceEq, hs]; rfl) ?_
        intro s' hs' hj'
        have h0' : s'.getD 0 .undef = vc := by rw [hj' 0 (by decide)]; simp only [go_sem, Nat.reduceLT, Nat.reduceEqDiff, reduceCtorEq, Int.reduceLT, Int.reduceEq, h0]
        have h1' : s'.getD 1 .undef = vi .i64 n := by rw [hj' 1 (by decide)]; simp only [go_sem, Nat.reduceLT, Nat.reduceEqDiff, reduceCtorEq, Int.reduceLT, Int.reduceEq, h1]
        have h5' : s'.getD 5 .undef = v := by rw [hj' 5 (by decide)]; simp only [go_sem, Nat.reduceLT, Nat.reduceEqDiff, reduceCtorEq, Int.reduceLT, Int.reduceEq, h5]
        have h6' : s'.getD 6 .undef = vi .i64 i := by rw [hj' 6 (by decide)]; simp only [go_sem, Nat.reduceLT, Nat.reduceEqDiff, reduceCtorEq, Int.reduceLT, Int.reduceEq, h6]
        have h7' : s'.getD 7 .undef = .own hh.length 0 0 L true := by rw [hj' 7 (by decide)]; simp only [go_sem, Nat.reduceLT, Nat.reduceEqDiff, reduceCtorEq, Int.reduceLT, Int.reduceEq, h7]
        clear hj'
        rw [hrep]
        have iy : ∀ h : Heap, iaO h 1 vc (vi .i64 ((i + 1 : Nat) : Int)) = some (.rptr (byteCell y), h) := fun h => hc.ia (by omega) (by exact eB_get hy)
        have ix : ∀ h : Heap, iaO h 1 vc (vi .i64 (i : Int)) = some (.rptr (byteCell x), h) := fun h => hc.ia (by omega) (by exact eB_get hx)
        have k1 : IntKind.u8.wrap (97 + (x.toNat : Int).tmod 16) = (((u8 (97 + x.toNat % 16)).toNat : Nat) : Int) := by
          rw [u8_toNat _ (by omega), Int.tmod_eq_emod_of_nonneg (by omega), IntKind.wrap_u8]; omega
        have k2 : IntKind.u8.wrap (97 + (IntKind.u8.wrap ((x.toNat : Int).tdiv 16)).tmod 4) = (((u8 (97 + x.toNat / 16 % 4)).toNat : Nat) : Int) := by
          have : IntKind.u8.wrap ((x.toNat : Int).tdiv 16) = ((x.toNat / 16 : Nat) : Int) := by
            rw [Int.tdiv_eq_ediv_of_nonneg (by omega), IntKind.wrap_u8]; omega
          rw [u8_toNat _ (by omega), this, Int.tmod_eq_emod_of_nonneg (by omega), IntKind.wrap_u8]; omega
        simp only [go_sem, Nat.reduceLT, Nat.reduceEqDiff, reduceCtorEq, Int.reduceLT, Int.reduceEq, B_exit, hs']
        refine X_draw rfl ?_
        simp only [go_sem, Nat.reduceLT, Nat.reduceEqDiff, reduceCtorEq, Int.reduceLT, Int.reduceEq, hs', h0', h5', h6', h7', ix, byteCell, k1, k2]
        rw [show ([[CV.sc (.int .u8 ((u8 (97 + x.toNat % 16)).toNat : Nat))], [CV.sc (.int .u8 ((u8 (97 + x.toNat / 16 % 4)).toNat : Nat))]] : List (List CV)) = eB (rowK x) from rfl]
        simp only [go_sem, Nat.reduceLT, Nat.reduceEqDiff, reduceCtorEq, Int.reduceLT, Int.reduceEq, hs', h0', h5', h6', h7', bd_co]
        rw [mko_agg2_own (by rw [eB_len, valF_len])]
        simp only [go_sem, Nat.reduceLT, Nat.reduceEqDiff, reduceCtorEq, Int.reduceLT, Int.reduceEq, hs', h5']
        refine XD_appG ((hb.push _).push _) (new := [[.sc (.string ⟨(rowK x).toArray⟩), .sl 1 (eB (valF y L)) true]]) (by simp only [go_sem, Nat.reduceLT, Nat.reduceEqDiff, reduceCtorEq, Int.reduceLT, Int.reduceEq, hs']) (by simp only [go_sem, Nat.reduceLT, Nat.reduceEqDiff, reduceCtorEq, Int.reduceLT, Int.reduceEq, hs']; exact src_last2) (by simp only [List.length_singleton]; omega) (by simp only [List.length_singleton]; omega) (fun v' h' hb' _ _ => ?_)
        simp only [go_sem, Nat.reduceLT, Nat.reduceEqDiff, reduceCtorEq, Int.reduceLT, Int.reduceEq, hs', h6', e3]
        refine ih (i + 2) _ (kv ++ [(rowK x, rowV x y)]) h' v' _ Q (by omega) (by simp only [List.length_append, List.length_singleton]; omega) (hR.snoc ⟨_, rfl, ?_⟩) hb' (by simp only [slot_len, hs']) (by simp only [go_sem, Nat.reduceLT, Nat.reduceEqDiff, reduceCtorEq, Int.reduceLT, Int.reduceEq, h0']) (by simp only [go_sem, Nat.reduceLT, Nat.reduceEqDiff, reduceCtorEq, Int.reduceLT, Int.reduceEq, h1']) (by simp only [go_sem, Nat.reduceLT, Nat.reduceEqDiff, reduceCtorEq, Int.reduceLT, Int.reduceEq, hs']) (by simp only [go_sem, Nat.reduceLT, Nat.reduceEqDiff, reduceCtorEq, Int.reduceLT, Int.reduceEq, hs']) ?_
        · unfold rowV
          rw [← hL]
          exact SlV.sl
        · intro s' h' v' els' a1 a2 a3 a4
          refine hQ s' h' v' els' a1 a2 a3 ?_
          rw [hd]
          simp only [rowL]
          rw [List.append_assoc] at a4
          exact a4
    · simp only [go_sem, Nat.reduceLT, Nat.reduceEqDiff, reduceCtorEq, Int.reduceLT, Int.reduceEq, hs, h0, h1, h5, h6, e1, e2, hc.ln, eB_len, hl, hlt]
      refine hQ _ h v els (by simp only [slot_len, hs]) (by simp only [go_sem, Nat.reduceLT, Nat.reduceEqDiff, reduceCtorEq, Int.reduceLT, Int.reduceEq, h5]) hb ?_
      have : rowL (m + 1) (c.drop i) = [] := by
        match hd : c.drop i with
        | [] => rfl
        | [_] => rfl
        | _ :: _ :: _ =>
          have := congrArg List.length hd
          simp only [List.length_drop, List.length_cons] at this
          omega
      rw [this, List.append_nil]; exact hR

/-- Rows of choices. -/
theorem list_f17 (c : List UInt8) (vc : VV) (hc : SlV 1 (eB c) vc) (n : Nat) (hn : n ≤ 40) (h : Heap) : ∃ v h', call F 17 [vc, vi .i64 n] h = some (.ret v, h') ∧ ∃ els, BufG h' 2 els v ∧ RowsE els (rowL n c) := by
  have : ∃ v h', call F 17 [vc, vi .i64 n] h = some (.ret v, h') ∧ (fun v h' => ∃ els, BufG h' 2 els v ∧ RowsE els (rowL n c)) v h' := by
    refine call_E (fn := f17) rfl ?_
    simp only [f17]
    generalize hs0 : ([vc, vi .i64 n] ++ List.replicate _ VV.undef : List VV) = s
    have hs : s.length = 82 := by rw [← hs0]; rfl
    have h0 : s.getD 0 .undef = vc := by rw [← hs0]; rfl
    have h1 : s.getD 1 .undef = vi .i64 n := by rw [← hs0]; rfl
    clear hs0
    simp only [go_sem, Nat.reduceLT, Nat.reduceEqDiff, reduceCtorEq, Int.reduceLT, Int.reduceEq, hs, h0, h1]
    refine f17_loop c vc hc n hn n 0 [] [] h nilS _ _ (by omega) (by simp) .nil (BufG.nil _ _) (by simp only [slot_len, hs]) (by simp only [go_sem, Nat.reduceLT, Nat.reduceEqDiff, reduceCtorEq, Int.reduceLT, Int.reduceEq, h0]) (by simp only [go_sem, Nat.reduceLT, Nat.reduceEqDiff, reduceCtorEq, Int.reduceLT, Int.reduceEq, h1]) (by simp only [go_sem, Nat.reduceLT, Nat.reduceEqDiff, reduceCtorEq, Int.reduceLT, Int.reduceEq, hs]) (by simp only [go_sem, Nat.reduceLT, Nat.reduceEqDiff, reduceCtorEq, Int.reduceLT, Int.reduceEq, hs]; rfl) ?_
    intro s' h' v' els' hs' h5' hb' hR'
    simp only [go_sem, Nat.reduceLT, Nat.reduceEqDiff, reduceCtorEq, Int.reduceLT, Int.reduceEq, hs', h5']
    exact ⟨els', hb', by simpa using hR'⟩
  exact this

theorem list_pure (c : List UInt8) (vc : VV) (hc : SlV 1 (eB c) vc) (n : Nat) (hn : n ≤ 40) : ∃ v h' els, call F 17 [vc, vi .i64 n] [] = some (.ret v, h') ∧ closRes h' v = some (slV 2 els) ∧ RowsE els (rowL n c) := by
  obtain ⟨v, h', h1, els, h2, h3⟩ := list_f17 c vc hc n hn []
  exact ⟨v, h', els, h1, h2.close, h3⟩

end Go.V01

set_option linter.unusedSimpArgs false
namespace Go.V01
open Go Go.Vm

/-! ### bytes, bent -/

def bend1 (b : List UInt8) (a : Nat) (v : UInt8) (how : Nat) : List UInt8 := if how % 3 = 0 then b.set (a % b.length) v else b
def bendL (b : List UInt8) (a : Nat) (v : UInt8) (how : Nat) : List UInt8 :=
  if how % 3 = 1 then b.take (a % (b.length + 1)) else if how % 9 = 2 then b ++ [v] else bend1 b a v how

theorem bufG_upto {h : Heap} {z : Nat} {els : List (List CV)} {v : VV} (hb : BufG h z els v) {k : IntKind} {b : Nat} (h3 : b ≤ els.length) :
    ∃ v', slO h z v none (some (vi k (b : Int))) none = some (v', h) ∧ ∃ w, closRes h v' = some w ∧ SlV z (els.take b) w := by
  rcases hb with ⟨rfl, rfl⟩ | ⟨id, g, hne, rfl, h2⟩
  · have hb : b = 0 := by simpa using h3
    subst hb
    exact ⟨nilS, by simp [slO, stepI, rhoO, lenV, bnd, intV], nilS, rfl, .inl ⟨rfl, by simp⟩⟩
  · have h4 : (b : Int) ≤ (els.length : Int) := by omega
    refine ⟨.own id g 0 b false, ?_, .cv (.sl z (els.take b) false), ?_, .inr ⟨_, rfl⟩⟩
    · simp [slO, stepI, rhoO, lenV, bnd, intV, h2, h4]
    · simp [closRes, closA, clos, h2, h3]

/-- The frame of Bend. -/
structure BendS (a : Nat) (x : UInt8) (w : Nat) (s : List VV) : Prop where
  hs : s.length = 48
  h1 : s.getD 1 .undef = vi .u16 a
  h2 : s.getD 2 .undef = vi .u8 x.toNat
  h3 : s.getD 3 .undef = vi .u8 w

structure BendM (b : List UInt8) (a : Nat) (x : UInt8) (w : Nat) (v : VV) (s : List VV) (h : Heap) : Prop where
  f : BendS a x w s
  h9 : s.getD 9 .undef = v
  hb : BufG h 1 (eB (bend1 b a x w)) v

theorem bend_0 (b : List UInt8) (hb : b.length ≤ 1000000000) (a : Nat) (ha : a < 65536) (x : UInt8) (w : Nat) (s : List VV) (h : Heap) (v : VV) (hS : BendS a x w s) (h9 : s.getD 9 .undef = v) (hb5 : BufG h 1 (eB b) v) :
    X F f25_0 ⟨s, h⟩ (NM2 (BendM b a x w v)) := by
  obtain ⟨hs, h1, h2, h3⟩ := hS
  have w3 : (w : Int).tmod 3 = ((w % 3 : Nat) : Int) := rfl
  have ea : IntKind.i64.wrap (a : Int) = (a : Int) := IntWalk.i64_in _ (by omega)
  rw [X_eq f25_0.eq_1]
  have skip : ∀ s', s'.length = 48 → s'.getD 1 .undef = vi .u16 a → s'.getD 2 .undef = vi .u8 x.toNat → s'.getD 3 .undef = vi .u8 w → s'.getD 9 .undef = v → (b = [] ∨ ¬ w % 3 = 0) →
      BendM b a x w v s' h := by
    intro s' hs h1 h2 h3 h9 hc
    refine ⟨⟨hs, h1, h2, h3⟩, h9, ?_⟩
    unfold bend1
    by_cases hw : w % 3 = 0
    · rcases hc with rfl | hc
      · rw [if_pos hw]; simpa using hb5
      · exact absurd hw hc
    · rw [if_neg hw]; exact hb5
  by_cases hp : (0 : Int) < (b.length : Int)
  · by_cases hw : ((w % 3 : Nat) : Int) = 0
    · have hp' : 0 < b.length := by omega
      have hne : ¬ (b.length : Int) = 0 := by omega
      have er : (a : Int).tmod (b.length : Int) = ((a % b.length : Nat) : Int) := rfl
      have hlt : a % b.length < b.length := Nat.mod_lt _ hp'
      have ho5 := hb5.own (eB_ne.2 (List.ne_nil_of_length_pos hp'))
      obtain ⟨p, hp1, hp2, hp3⟩ := ho5.byte (List.getElem?_eq_getElem hlt)
      obtain ⟨h6, e6, ho6⟩ := hp3 x
      simp only [go_sem, Nat.reduceLT, Nat.reduceEqDiff, reduceCtorEq, Int.reduceLT, Int.reduceEq, hs, h1, h2, h3, h9, hb5.ln, eB_len, hp, w3, eq_true hw, ea, hne, bin_rem, not_false_eq_true, er, hp1, e6]
      refine ⟨⟨by simp only [slot_len, hs], by simp only [go_sem, Nat.reduceLT, Nat.reduceEqDiff, reduceCtorEq, Int.reduceLT, Int.reduceEq, h1], by simp only [go_sem, Nat.reduceLT, Nat.reduceEqDiff, reduceCtorEq, Int.reduceLT, Int.reduceEq, h2], by simp only [go_sem, Nat.reduceLT, Nat.reduceEqDiff, reduceCtorEq, Int.reduceLT, Int.reduceEq, h3]⟩, by simp only [go_sem, Nat.reduceLT, Nat.reduceEqDiff, reduceCtorEq, Int.reduceLT, Int.reduceEq, h9], ?_⟩
      unfold bend1
      rw [if_pos (by omega)]
      refine ho6.bufG ?_
      rw [eB_ne]
      intro e0
      have := congrArg List.length e0
      rw [List.length_set, List.length_nil] at this
      omega
    · simp only [go_sem, Nat.reduceLT, Nat.reduceEqDiff, reduceCtorEq, Int.reduceLT, Int.reduceEq, hs, h1, h2, h3, h9, hb5.ln, eB_len, hp, w3, hw]
      exact skip _ (by simp only [slot_len, hs]) (by simp only [go_sem, Nat.reduceLT, Nat.reduceEqDiff, reduceCtorEq, Int.reduceLT, Int.reduceEq, h1]) (by simp only [go_sem, Nat.reduceLT, Nat.reduceEqDiff, reduceCtorEq, Int.reduceLT, Int.reduceEq, h2]) (by simp only [go_sem, Nat.reduceLT, Nat.reduceEqDiff, reduceCtorEq, Int.reduceLT, Int.reduceEq, h3]) (by simp only [go_sem, Nat.reduceLT, Nat.reduceEqDiff, reduceCtorEq, Int.reduceLT, Int.reduceEq, h9]) (.inr (by omega))
  · simp only [go_sem, Nat.reduceLT, Nat.reduceEqDiff, reduceCtorEq, Int.reduceLT, Int.reduceEq, hs, h1, h2, h3, h9, hb5.ln, eB_len, hp]
    exact skip _ (by simp only [slot_len, hs]) (by simp only [go_sem, Nat.reduceLT, Nat.reduceEqDiff, reduceCtorEq, Int.reduceLT, Int.reduceEq, h1]) (by simp only [go_sem, Nat.reduceLT, Nat.reduceEqDiff, reduceCtorEq, Int.reduceLT, Int.reduceEq, h2]) (by simp only [go_sem, Nat.reduceLT, Nat.reduceEqDiff, reduceCtorEq, Int.reduceLT, Int.reduceEq, h3]) (by simp only [go_sem, Nat.reduceLT, Nat.reduceEqDiff, reduceCtorEq, Int.reduceLT, Int.reduceEq, h9]) (.inl (List.eq_nil_of_length_eq_zero (by omega)))

theorem bend_f25 (b : List UInt8) (vb_ : VV) (hv : SlV 1 (eB b) vb_) (hb : b.length ≤ 1000000000) (a : Nat) (ha : a < 65536) (x : UInt8) (how : UInt8) :
    ∃ v h' w, call F 25 [vb_, vi .u16 a, vi .u8 x.toNat, vi .u8 how.toNat] [] = some (.ret v, h') ∧ closRes h' v = some w ∧ SlV 1 (eB (bendL b a x how.toNat)) w := by
  have : ∃ v h', call F 25 [vb_, vi .u16 a, vi .u8 x.toNat, vi .u8 how.toNat] [] = some (.ret v, h') ∧ (fun v h' => ∃ w, closRes h' v = some w ∧ SlV 1 (eB (bendL b a x how.toNat)) w) v h' := by
    refine call_E (fn := f25) rfl ?_
    simp only [f25]
    generalize hs0 : ([vb_, vi .u16 a, vi .u8 x.toNat, vi .u8 how.toNat] ++ List.replicate _ VV.undef : List VV) = s
    have hs : s.length = 48 := by rw [← hs0]; rfl
    have h0 : s.getD 0 .undef = vb_ := by rw [← hs0]; rfl
    have h1 : s.getD 1 .undef = vi .u16 a := by rw [← hs0]; rfl
    have h2 : s.getD 2 .undef = vi .u8 x.toNat := by rw [← hs0]; rfl
    have h3 : s.getD 3 .undef = vi .u8 how.toNat := by rw [← hs0]; rfl
    clear hs0
    have hhow := how.toNat_lt
    generalize how.toNat = w at *
    have w3 : (w : Int).tmod 3 = ((w % 3 : Nat) : Int) := rfl
    have w9 : (w : Int).tmod 9 = ((w % 9 : Nat) : Int) := rfl
    have ea : IntKind.i64.wrap (a : Int) = (a : Int) := IntWalk.i64_in _ (by omega)
    simp only [go_sem, Nat.reduceLT, Nat.reduceEqDiff, reduceCtorEq, Int.reduceLT, Int.reduceEq, hs, h0, h1, h2, h3]
    refine XO_appG (BufG.nil [] 1) (new := eB b) (by simp only [go_sem, Nat.reduceLT, Nat.reduceEqDiff, reduceCtorEq, Int.reduceLT, Int.reduceEq, hs]) (by simp only [go_sem, Nat.reduceLT, Nat.reduceEqDiff, reduceCtorEq, Int.reduceLT, Int.reduceEq, hs, h0]; exact hv.src) (by simp only [eB_len, List.length_nil]; omega) (by simp only [eB_len, List.length_nil]; omega) (fun v5 h5 hb5 _ _ => ?_)
    rw [List.nil_append] at hb5
    simp only [go_sem, Nat.reduceLT, Nat.reduceEqDiff, reduceCtorEq, Int.reduceLT, Int.reduceEq, hs]
    refine (bend_0 b hb a ha x w _ h5 v5 ⟨by simp only [slot_len, hs], by simp only [go_sem, Nat.reduceLT, Nat.reduceEqDiff, reduceCtorEq, Int.reduceLT, Int.reduceEq, h1], by simp only [go_sem, Nat.reduceLT, Nat.reduceEqDiff, reduceCtorEq, Int.reduceLT, Int.reduceEq, h2], by simp only [go_sem, Nat.reduceLT, Nat.reduceEqDiff, reduceCtorEq, Int.reduceLT, Int.reduceEq, h3]⟩ (by simp only [go_sem, Nat.reduceLT, Nat.reduceEqDiff, reduceCtorEq, Int.reduceLT, Int.reduceEq, hs]) hb5).mono (NM2_to ?_)
    clear hs h0 h1 h2 h3 hb5
    rintro s h5 ⟨⟨hs, h1, h2, h3⟩, h9, hb5⟩
    have hl1 : (bend1 b a x w).length = b.length := by unfold bend1; split <;> simp
    simp only [go_sem, Nat.reduceLT, Nat.reduceEqDiff, reduceCtorEq, Int.reduceLT, Int.reduceEq]
    rw [X_eq f25_1.eq_1]
    by_cases hw : ((w % 3 : Nat) : Int) = 1
    · have hw9 : ¬ ((w % 9 : Nat) : Int) = 2 := by omega
      have hw0 : ¬ w % 3 = 0 := by omega
      have hb1 : bend1 b a x w = b := by unfold bend1; rw [if_neg hw0]
      rw [hb1] at hb5
      have e1 : IntKind.i64.wrap ((b.length : Int) + 1) = ((b.length + 1 : Nat) : Int) := by rw [IntWalk.i64_in _ (by omega)]; omega
      have hne : ¬ ((b.length + 1 : Nat) : Int) = 0 := by omega
      have er : (a : Int).tmod ((b.length + 1 : Nat) : Int) = ((a % (b.length + 1) : Nat) : Int) := rfl
      have hlt : a % (b.length + 1) < b.length + 1 := Nat.mod_lt _ (by omega)
      obtain ⟨v', e2, w', e3, e4⟩ := bufG_upto hb5 (k := .i64) (b := a % (b.length + 1)) (by rw [eB_len]; omega)
      simp only [go_sem, Nat.reduceLT, Nat.reduceEqDiff, reduceCtorEq, Int.reduceLT, Int.reduceEq, hs, h1, h3, h9, w3, eq_true hw, hb5.ln, eB_len, e1, ea, hne, bin_rem, not_false_eq_true, er, e2]
      rw [X_eq f25_2.eq_1]
      simp only [go_sem, Nat.reduceLT, Nat.reduceEqDiff, reduceCtorEq, Int.reduceLT, Int.reduceEq, hs, h3, w9, hw9]
      refine ⟨w', e3, ?_⟩
      unfold bendL
      rw [if_pos (by omega), ← eB_take]; exact e4
    · simp only [go_sem, Nat.reduceLT, Nat.reduceEqDiff, reduceCtorEq, Int.reduceLT, Int.reduceEq, hs, h1, h3, h9, w3, hw]
      rw [X_eq f25_2.eq_1]
      have hw' : ¬ w % 3 = 1 := by omega
      by_cases hw9 : ((w % 9 : Nat) : Int) = 2
      · have hw9' : w % 9 = 2 := by omega
        have hb1 : bend1 b a x w = b := by unfold bend1; rw [if_neg (by omega)]
        rw [hb1] at hb5
        simp only [go_sem, Nat.reduceLT, Nat.reduceEqDiff, reduceCtorEq, Int.reduceLT, Int.reduceEq, hs, h2, h3, h9, w9, eq_true hw9]
        refine XO_appG hb5 (new := eB [x]) (by simp only [go_sem, Nat.reduceLT, Nat.reduceEqDiff, reduceCtorEq, Int.reduceLT, Int.reduceEq, hs, h9]) (by simp only [go_sem, Nat.reduceLT, Nat.reduceEqDiff, reduceCtorEq, Int.reduceLT, Int.reduceEq, hs]; rfl) (by simp only [eB_len, List.length_singleton]; omega) (by simp only [eB_len, List.length_singleton]; omega) (fun v6 h6 hb6 _ _ => ?_)
        rw [← eB_append] at hb6
        simp only [go_sem, Nat.reduceLT, Nat.reduceEqDiff, reduceCtorEq, Int.reduceLT, Int.reduceEq, hs]
        refine ⟨_, hb6.close, ?_⟩
        unfold bendL
        rw [if_neg hw', if_pos hw9']
        exact slV_SlV
      · have hw9' : ¬ w % 9 = 2 := by omega
        simp only [go_sem, Nat.reduceLT, Nat.reduceEqDiff, reduceCtorEq, Int.reduceLT, Int.reduceEq, hs, h3, h9, w9, hw9]
        refine ⟨_, hb5.close, ?_⟩
        unfold bendL
        rw [if_neg hw', if_neg hw9']
        exact slV_SlV
  obtain ⟨v, h', e1, w, e2, e3⟩ := this
  exact ⟨v, h', w, e1, e2, e3⟩

end Go.V01

set_option linter.unusedSimpArgs false
namespace Go.V01
open Go Go.Vm

/-! ### the document's answer: what is put -/

theorem f18_loop : ∀ (k n : Nat) (out : List UInt8) (s : List VV) (h : Heap) (v : VV) (Q : Pst), n < 128 ^ (k + 1) → n < 9223372036854775808 → out.length + k ≤ 100 → s.length = 24 →
    s.getD 0 .undef = vi .i64 n → s.getD 3 .undef = v → BufG h 1 (eB out) v →
    (∀ (n' : Nat) (out' : List UInt8) s' h' v', s'.length = 24 → s'.getD 0 .undef = vi .i64 n' → n' ≤ 127 → s'.getD 3 .undef = v' → BufG h' 1 (eB out') v' → out' ++ [u8 n'] = out ++ numF k n → Q (.exit 0) ⟨s', h'⟩) →
    X F (.loop f18_0) ⟨s, h⟩ Q := by
  intro k
  induction k with
  | zero =>
    intro n out s h v Q hn hn2 hlen hs h1 h2 hb hQ
    have hlt : ¬ (127 : Int) < (n : Int) := by omega
    rw [X_loop, X_eq f18_0.eq_1]
    simp only [go_sem, Nat.reduceLT, Nat.reduceEqDiff, reduceCtorEq, Int.reduceLT, Int.reduceEq, hs, h1, hlt]
    exact hQ n out _ h v (by simp only [slot_len, hs]) (by simp only [go_sem, Nat.reduceLT, Nat.reduceEqDiff, reduceCtorEq, Int.reduceLT, Int.reduceEq, h1]) (by omega) (by simp only [go_sem, Nat.reduceLT, Nat.reduceEqDiff, reduceCtorEq, Int.reduceLT, Int.reduceEq, h2]) hb rfl
  | succ k ih =>
    intro n out s h v Q hn hn2 hlen hs h1 h2 hb hQ
    rw [X_loop, X_eq f18_0.eq_1]
    by_cases hlt : (127 : Int) < (n : Int)
    · have e0 : (n : Int).tmod 128 = ((n % 128 : Nat) : Int) := rfl
      have e1 : IntKind.u8.wrap (IntKind.i64.wrap (128 + ((n % 128 : Nat) : Int))) = ((128 + n % 128 : Nat) : Int) := by
        rw [IntWalk.i64_in _ (by omega), IntKind.wrap_u8]; omega
      have e2 : IntKind.i64.wrap ((n : Int).tdiv 128) = ((n / 128 : Nat) : Int) := by
        rw [Int.tdiv_eq_ediv_of_nonneg (by omega), IntWalk.i64_in _ (by omega)]; omega
      simp only [go_sem, Nat.reduceLT, Nat.reduceEqDiff, reduceCtorEq, Int.reduceLT, Int.reduceEq, hs, h1, h2, hlt, e0, e1, e2]
      refine XO_appG hb (new := eB [u8 (128 + n % 128)]) (by simp only [go_sem, Nat.reduceLT, Nat.reduceEqDiff, reduceCtorEq, Int.reduceLT, Int.reduceEq, hs]) ?_ (by simp only [eB_len, List.length_singleton]; omega) (by simp only [eB_len, List.length_singleton]; omega) (fun v' h' hb' _ _ => ?_)
      · simp only [go_sem, Nat.reduceLT, Nat.reduceEqDiff, reduceCtorEq, Int.reduceLT, Int.reduceEq, hs]
        rw [eB_u8 _ (by omega)]
      · simp only [go_sem, Nat.reduceLT, Nat.reduceEqDiff, reduceCtorEq, Int.reduceLT, Int.reduceEq, hs, h1, e2]
        rw [← eB_append] at hb'
        refine ih (n / 128) (out ++ [u8 (128 + n % 128)]) _ h' v' Q ?_ (by omega) (by simp; omega) (by simp only [slot_len, hs]) (by simp only [go_sem, Nat.reduceLT, Nat.reduceEqDiff, reduceCtorEq, Int.reduceLT, Int.reduceEq, hs]) (by simp only [go_sem, Nat.reduceLT, Nat.reduceEqDiff, reduceCtorEq, Int.reduceLT, Int.reduceEq, hs]) hb' ?_
        · rw [Nat.pow_succ] at hn
          omega
        · intro n' out' s' h'' v'' a1 a2 a3 a4 a5 a6
          refine hQ n' out' s' h'' v'' a1 a2 a3 a4 a5 ?_
          rw [a6]
          have : 127 < n := by omega
          simp [numF, this]
    · simp only [go_sem, Nat.reduceLT, Nat.reduceEqDiff, reduceCtorEq, Int.reduceLT, Int.reduceEq, hs, h1, hlt]
      refine hQ n out _ h v (by simp only [slot_len, hs]) (by simp only [go_sem, Nat.reduceLT, Nat.reduceEqDiff, reduceCtorEq, Int.reduceLT, Int.reduceEq, h1]) (by omega) (by simp only [go_sem, Nat.reduceLT, Nat.reduceEqDiff, reduceCtorEq, Int.reduceLT, Int.reduceEq, h2]) hb ?_
      have : ¬ 127 < n := by omega
      simp only [numF, if_neg this]

theorem rnum_pure (n : Int) : ∃ v h', call F 18 [vi .i64 n] [] = some (.ret v, h') ∧ closRes h' v = some (.cv (.sl 1 (eB (num (clamp n))) false)) := by
  refine call_E (P := fun v h' => closRes h' v = some (.cv (.sl 1 (eB (num (clamp n))) false))) (fn := f18) rfl ?_
  simp only [f18]
  generalize hs0 : ([vi .i64 n] ++ List.replicate _ VV.undef : List VV) = s
  have hs : s.length = 24 := by rw [← hs0]; rfl
  have h0 : s.getD 0 .undef = vi .i64 n := by rw [← hs0]; rfl
  clear hs0
  have ec : max 0 (min n 9007199254740992) = ((clamp n : Nat) : Int) := by unfold clamp; omega
  have hc := clamp_le n
  simp only [go_sem, Nat.reduceLT, Nat.reduceEqDiff, reduceCtorEq, Int.reduceLT, Int.reduceEq, hs, h0, ec]
  refine f18_loop 8 (clamp n) [] _ [] nilS _ (by rw [pow9]; omega) (by omega) (by decide) (by simp only [slot_len, hs]) (by simp only [go_sem, Nat.reduceLT, Nat.reduceEqDiff, reduceCtorEq, Int.reduceLT, Int.reduceEq, hs]) (by simp only [go_sem, Nat.reduceLT, Nat.reduceEqDiff, reduceCtorEq, Int.reduceLT, Int.reduceEq, hs]) (BufG.nil _ _) ?_
  intro n' out' s' h' v' a1 a2 a3 a4 a5 a6
  rw [List.nil_append] at a6
  have hl : (out' ++ [u8 n']).length ≤ 20 := by rw [a6]; have := numF_le 8 (clamp n); omega
  rw [List.length_append, List.length_singleton] at hl
  have e1 : IntKind.u8.wrap (n' : Int) = n' := IntWalk.u8_in _ (by omega)
  simp only [go_sem, Nat.reduceLT, Nat.reduceEqDiff, reduceCtorEq, Int.reduceLT, Int.reduceEq, a1, a2, a4, e1]
  refine XO_appG (new := eB [u8 n']) a5 (by simp only [go_sem, Nat.reduceLT, Nat.reduceEqDiff, reduceCtorEq, Int.reduceLT, Int.reduceEq, a1]) ?_ (by simp only [eB_len, List.length_singleton]; omega) (by simp only [eB_len, List.length_singleton]; omega) (fun v' h' hb' _ _ => ?_)
  · simp only [go_sem, Nat.reduceLT, Nat.reduceEqDiff, reduceCtorEq, Int.reduceLT, Int.reduceEq, a1]
    rw [eB_u8 _ (by omega)]
  · simp only [go_sem, Nat.reduceLT, Nat.reduceEqDiff, reduceCtorEq, Int.reduceLT, Int.reduceEq, a1]
    rw [← eB_append, a6] at hb'
    have := hb'.close
    unfold CloseTo slV at this
    rw [if_neg (eB_ne.2 (numF_ne 8 _))] at this
    exact this

theorem join_f31 (a b : List UInt8) (va vb_ : VV) (ha : SlV 1 (eB a) va) (hb : SlV 1 (eB b) vb_) (hl : a.length + b.length ≤ 1000000000) :
    ∃ v h', call F 31 [va, vb_] [] = some (.ret v, h') ∧ closRes h' v = some (slV 1 (eB (a ++ b))) := by
  refine call_E (P := fun v h' => closRes h' v = some (slV 1 (eB (a ++ b)))) (fn := f31) rfl ?_
  simp only [f31]
  generalize hs0 : ([va, vb_] ++ List.replicate _ VV.undef : List VV) = s
  have hs : s.length = 13 := by rw [← hs0]; rfl
  have h0 : s.getD 0 .undef = va := by rw [← hs0]; rfl
  have h1 : s.getD 1 .undef = vb_ := by rw [← hs0]; rfl
  clear hs0
  simp only [go_sem, Nat.reduceLT, Nat.reduceEqDiff, reduceCtorEq, Int.reduceLT, Int.reduceEq, hs, h0]
  refine XO_appG (BufG.nil [] 1) (new := eB a) (by simp only [go_sem, Nat.reduceLT, Nat.reduceEqDiff, reduceCtorEq, Int.reduceLT, Int.reduceEq, hs]) (by simp only [go_sem, Nat.reduceLT, Nat.reduceEqDiff, reduceCtorEq, Int.reduceLT, Int.reduceEq, hs, h0]; exact ha.src) (by simp only [eB_len, List.length_nil]; omega) (by simp only [eB_len, List.length_nil]; omega) (fun v5 h5 hb5 _ _ => ?_)
  rw [List.nil_append] at hb5
  simp only [go_sem, Nat.reduceLT, Nat.reduceEqDiff, reduceCtorEq, Int.reduceLT, Int.reduceEq, hs, h1]
  refine XO_appG hb5 (new := eB b) (by simp only [go_sem, Nat.reduceLT, Nat.reduceEqDiff, reduceCtorEq, Int.reduceLT, Int.reduceEq, hs]) (by simp only [go_sem, Nat.reduceLT, Nat.reduceEqDiff, reduceCtorEq, Int.reduceLT, Int.reduceEq, hs, h1]; exact hb.src) (by simp only [eB_len]; omega) (by simp only [eB_len]; omega) (fun v6 h6 hb6 _ _ => ?_)
  rw [← eB_append] at hb6
  simp only [go_sem, Nat.reduceLT, Nat.reduceEqDiff, reduceCtorEq, Int.reduceLT, Int.reduceEq, hs]
  exact hb6.close

theorem SlV.of_slV {z : Nat} {l : List (List CV)} : SlV z l (slV z l) := slV_SlV

theorem rtext_pure (l : List UInt8) (hl : l.length ≤ 900000000) : ∃ v h', call F 19 [txt l] [] = some (.ret v, h') ∧ closRes h' v = some (slV 1 (eB (text l))) := by
  refine call_E (P := fun v h' => closRes h' v = some (slV 1 (eB (text l)))) (fn := f19) rfl ?_
  simp only [f19]
  generalize hs0 : ([txt l] ++ List.replicate _ VV.undef : List VV) = s
  have hs : s.length = 9 := by rw [← hs0]; rfl
  have h0 : s.getD 0 .undef = txt l := by rw [← hs0]; rfl
  clear hs0
  simp only [go_sem, Nat.reduceLT, Nat.reduceEqDiff, reduceCtorEq, Int.reduceLT, Int.reduceEq, hs, h0]
  obtain ⟨v1, g1, hc1, hr1⟩ := rnum_pure l.length
  have hn := num_len l.length
  refine XO_callP (by simp only [List.map, go_sem, Nat.reduceLT, Nat.reduceEqDiff, reduceCtorEq, Int.reduceLT, Int.reduceEq, hs]; exact clos_cv clos_nil) hc1 hr1 ?_
  simp only [go_sem, Nat.reduceLT, Nat.reduceEqDiff, reduceCtorEq, Int.reduceLT, Int.reduceEq, hs, h0]
  obtain ⟨v2, g2, hc2, hr2⟩ := join_f31 (num (clamp l.length)) l (.cv (.sl 1 (eB (num (clamp l.length))) false)) (.cv (.sl 1 (eB l) false)) SlV.sl SlV.sl (by omega)
  refine XO_callP (by simp only [List.map, go_sem, Nat.reduceLT, Nat.reduceEqDiff, reduceCtorEq, Int.reduceLT, Int.reduceEq, hs]; exact clos_cv (clos_cv clos_nil)) hc2 hr2 ?_
  simp only [go_sem, Nat.reduceLT, Nat.reduceEqDiff, reduceCtorEq, Int.reduceLT, Int.reduceEq, hs]
  have : ∀ (h : Heap) (els : List (List CV)), closRes h (slV 1 els) = some (slV 1 els) := by
    intro h els
    unfold slV
    split <;> rfl
  exact this _ _

theorem res_slV (h : Heap) (z : Nat) (els : List (List CV)) : closRes h (slV z els) = some (slV z els) := by
  unfold slV
  split <;> rfl

/-- Rows by the document. -/
theorem f21_loop (l : List (List CV)) (vl : VV) (hv : SlV 2 l vl) : ∀ (rest : List (List CV)) (kv : List (List UInt8 × List UInt8)) (_ : RowsE rest kv) (i : Nat) (out : List UInt8) (s : List VV) (Q : Pst),
    l.drop i = rest → i ≤ l.length → l.length ≤ 900000000 → out.length + ((kv.map rowB).flatten).length ≤ 900000000 → s.length = 31 →
    s.getD 0 .undef = vl → s.getD 4 .undef = vi .i64 i → SlV 1 (eB out) (s.getD 3 .undef) →
    (∀ s', s'.length = 31 → SlV 1 (eB (out ++ (kv.map rowB).flatten)) (s'.getD 3 .undef) → Q (.exit 0) ⟨s', []⟩) →
    X F (.loop f21_0) ⟨s, []⟩ Q := by
  intro rest kv hR
  induction hR with
  | nil =>
    intro i out s Q hd hi hl hn hs h0 h4 h3 hQ
    rw [X_loop, X_eq f21_0.eq_1]
    have hlt : ¬ (i : Int) < (l.length : Int) := by
      have := congrArg List.length hd
      rw [List.length_drop, List.length_nil] at this
      omega
    simp only [go_sem, Nat.reduceLT, Nat.reduceEqDiff, reduceCtorEq, Int.reduceLT, Int.reduceEq, hs, h0, h4, hv.ln, hlt]
    exact hQ _ (by simp only [slot_len, hs]) (by simp only [go_sem, Nat.reduceLT, Nat.reduceEqDiff, reduceCtorEq, Int.reduceLT, Int.reduceEq, List.map_nil, List.flatten_nil, List.append_nil]; exact h3)
  | @cons e p rl rk hrow hrest ih =>
    intro i out s Q hd hi hl hn hs h0 h4 h3 hQ
    have hget : l[i]? = some e := by
      have := congrArg (fun x => x[0]?) hd
      simpa using this
    have hilt : i < l.length := (List.getElem?_eq_some_iff.1 hget).1
    have hd' : l.drop (i + 1) = rl := by
      rw [← List.drop_drop, hd]; rfl
    obtain ⟨c, rfl, hc⟩ := hrow
    have hlt : (i : Int) < (l.length : Int) := by omega
    simp only [List.map_cons, List.flatten_cons, List.length_append, rowB] at hn
    have hk1 := text_len p.1
    have hk2 := text_len p.2
    have hia : ∀ h : Heap, iaO h 2 vl (vi .i64 (i : Int)) = some (.rptr [.sc (.string ⟨p.1.toArray⟩), c], h) := fun h => hv.ia (by omega) (by exact hget)
    have e5 : IntKind.i64.wrap ((i : Int) + 1) = ((i + 1 : Nat) : Int) := by rw [IntWalk.i64_in _ (by omega)]; omega
    rw [X_loop, X_eq f21_0.eq_1]
    simp only [go_sem, Nat.reduceLT, Nat.reduceEqDiff, reduceCtorEq, Int.reduceLT, Int.reduceEq, hs, h0, h4, hv.ln, hlt]
    refine X_draw rfl ?_
    generalize hw : s.getD 3 .undef = w at h3
    simp only [go_sem, Nat.reduceLT, Nat.reduceEqDiff, reduceCtorEq, Int.reduceLT, Int.reduceEq, hs, h0, h4, hw, hia]
    obtain ⟨v1, g1, hc1, hr1⟩ := rtext_pure p.1 (by omega)
    refine XD_callP (by simp only [List.map, go_sem, Nat.reduceLT, Nat.reduceEqDiff, reduceCtorEq, Int.reduceLT, Int.reduceEq, hs]; exact clos_cv clos_nil) hc1 hr1 ?_
    simp only [go_sem, Nat.reduceLT, Nat.reduceEqDiff, reduceCtorEq, Int.reduceLT, Int.reduceEq, hs, h0, h4, hw, hia]
    obtain ⟨v2, g2, hc2, hr2⟩ := join_f31 out (text p.1) w _ h3 slV_SlV (by omega)
    refine XD_callP (by simp only [List.map, go_sem, Nat.reduceLT, Nat.reduceEqDiff, reduceCtorEq, Int.reduceLT, Int.reduceEq, hs, hw]; exact h3.clos (slV_SlV.clos clos_nil)) hc2 hr2 ?_
    simp only [go_sem, Nat.reduceLT, Nat.reduceEqDiff, reduceCtorEq, Int.reduceLT, Int.reduceEq, hs, h0, h4, hia, hc.bs]
    obtain ⟨v3, g3, hc3, hr3⟩ := rtext_pure p.2 (by omega)
    refine XD_callP (by simp only [List.map, go_sem, Nat.reduceLT, Nat.reduceEqDiff, reduceCtorEq, Int.reduceLT, Int.reduceEq, hs]; exact clos_cv clos_nil) hc3 hr3 ?_
    simp only [go_sem, Nat.reduceLT, Nat.reduceEqDiff, reduceCtorEq, Int.reduceLT, Int.reduceEq, hs]
    obtain ⟨v4, g4, hc4, hr4⟩ := join_f31 (out ++ text p.1) (text p.2) _ _ slV_SlV slV_SlV (by rw [List.length_append]; omega)
    refine XD_callP (by simp only [List.map, go_sem, Nat.reduceLT, Nat.reduceEqDiff, reduceCtorEq, Int.reduceLT, Int.reduceEq, hs]; exact slV_SlV.clos (slV_SlV.clos clos_nil)) hc4 hr4 ?_
    simp only [go_sem, Nat.reduceLT, Nat.reduceEqDiff, reduceCtorEq, Int.reduceLT, Int.reduceEq, hs, h4, e5]
    refine ih (i + 1) (out ++ rowB p) _ Q hd' (by omega) hl (by simp only [rowB, List.length_append]; omega) (by simp only [slot_len, hs]) (by simp only [go_sem, Nat.reduceLT, Nat.reduceEqDiff, reduceCtorEq, Int.reduceLT, Int.reduceEq, h0]) (by simp only [go_sem, Nat.reduceLT, Nat.reduceEqDiff, reduceCtorEq, Int.reduceLT, Int.reduceEq, hs]) (by simp only [go_sem, Nat.reduceLT, Nat.reduceEqDiff, reduceCtorEq, Int.reduceLT, Int.reduceEq, hs, rowB, ← List.append_assoc]; exact slV_SlV) ?_
    simp only [List.map_cons, List.flatten_cons, ← List.append_assoc] at hQ ⊢
    exact hQ

theorem rrows_f21 (l : List (List CV)) (kv : List (List UInt8 × List UInt8)) (vl : VV) (hv : SlV 2 l vl) (hR : RowsE l kv) (hn : (rowsB kv).length ≤ 900000000) (hk : kv.length ≤ 900000000) :
    ∃ v h' w, call F 21 [vl] [] = some (.ret v, h') ∧ closRes h' v = some w ∧ SlV 1 (eB (rowsB kv)) w := by
  have : ∃ v h', call F 21 [vl] [] = some (.ret v, h') ∧ (fun v h' => ∃ w, closRes h' v = some w ∧ SlV 1 (eB (rowsB kv)) w) v h' := by
    refine call_E (fn := f21) rfl ?_
    simp only [f21]
    generalize hs0 : ([vl] ++ List.replicate _ VV.undef : List VV) = s
    have hs : s.length = 31 := by rw [← hs0]; rfl
    have h0 : s.getD 0 .undef = vl := by rw [← hs0]; rfl
    clear hs0
    simp only [go_sem, Nat.reduceLT, Nat.reduceEqDiff, reduceCtorEq, Int.reduceLT, Int.reduceEq, hs, h0, hv.ln]
    obtain ⟨v1, g1, hc1, hr1⟩ := rnum_pure l.length
    refine XO_callP (by simp only [List.map, go_sem, Nat.reduceLT, Nat.reduceEqDiff, reduceCtorEq, Int.reduceLT, Int.reduceEq, hs]; exact clos_cv clos_nil) hc1 hr1 ?_
    simp only [go_sem, Nat.reduceLT, Nat.reduceEqDiff, reduceCtorEq, Int.reduceLT, Int.reduceEq, hs, h0]
    have hlen : ((l.length : Nat) : Int) = ((kv.length : Nat) : Int) := by rw [hR.len]
    simp only [rowsB, List.length_append] at hn
    refine f21_loop l vl hv l kv hR 0 (num (clamp l.length)) _ _ rfl (by omega) (by rw [hR.len]; exact hk) (by rw [hlen]; omega) (by simp only [slot_len, hs]) (by simp only [go_sem, Nat.reduceLT, Nat.reduceEqDiff, reduceCtorEq, Int.reduceLT, Int.reduceEq, h0]) (by simp only [go_sem, Nat.reduceLT, Nat.reduceEqDiff, reduceCtorEq, Int.reduceLT, Int.reduceEq, hs]; rfl) (by simp only [go_sem, Nat.reduceLT, Nat.reduceEqDiff, reduceCtorEq, Int.reduceLT, Int.reduceEq, hs]; exact SlV.sl) ?_
    intro s' hs' h3'
    generalize hw : s'.getD 3 .undef = w at h3'
    simp only [go_sem, Nat.reduceLT, Nat.reduceEqDiff, reduceCtorEq, Int.reduceLT, Int.reduceEq, hs', hw]
    rw [hlen] at h3'
    refine ⟨w, ?_, h3'⟩
    rcases h3' with ⟨rfl, _⟩ | ⟨ex, rfl⟩ <;> rfl
  obtain ⟨v, h', e1, w, e2, e3⟩ := this
  exact ⟨v, h', w, e1, e2, e3⟩

end Go.V01
