/-
  Vm: the rules by which a run is reckoned, for simp (own work).
-/
import Derived.Test.YtpingdgbndmcnaaVmMore2
namespace Go.Vm
open Go
attribute [go_sem]
  NM2_norm NR2_norm NR2_ret NR2_exit NR2_goto
  X_skip X_seq X_reg X_block X_scope X_exit X_goto X_ret X_label XO_mv XO_g XG_tt XG_tf XG_ft XG_ff XO_bin XO_cvI XO_pick XO_ext XO_len XO_mnmx XD_mv
  XD_g XGD_tt XGD_tf XGD_ft XGD_ff XD_bin XD_cvI XD_pick XD_ext XD_len XD_mnmx XD_mksl XD_iadL XD_ld XD_fad XD_nil XWD_some XVD_same XVD_k XO_alloc
  XO_st XD_st XO_box XO_mkslo XD_mkslo XO_mrk XD_mrk mr_0 XO_build st_0_2 st_0_3 st_l_2 st_l_3 ld_l_2 ld_l_3 ld_r_2 ld_r_3 ld_l_at Nat.zero_add bd_nil
  bd_2 bd_3 XD_build XO_fld XD_fld XO_cvBS XD_cvBS bs_sl bs_nil XO_cvSB XD_cvSB sb_txt XO_slL XD_slL Option.map_some Option.map_none XO_mksl XO_iadL
  XO_ld XO_fad ld_rptr fd_r fd_p fd_e List.drop_zero List.drop_succ_cons mkParts_nil mkParts_cons mkO_1 mkO_2 mk_agg2 mk_agg3 src_sl mmO_min mmO_max
  XW_some XV_some ln_nil ln_sl ln_own ln_str cvO_eq pkO_t pkO_f exO_eq evalO_t evalO_c putD_some putD_none slot_len slot_eq slot_ne ne_eq
  not_false_eq_true not_true_eq_false XO_nil RQ_0 RQ_0n RQ_1 RQ_2 RQ_3 K_norm K_exit K_goto K_ret K_pan B_norm B_exit B_goto B_ret B_pan S_norm S_exit
  S_ret S_pan X_cnd XB_true XB_false bin_add bin_sub bin_mul bin_and bin_or bin_shr bin_shl bin_quo bin_rem bin_eql bin_neq bin_lss bin_leq bin_gtr
  bin_geq bin_seql bin_sneq decide_true decide_false eq_self if_true if_false List.getElem?_cons_zero List.getElem?_cons_succ XO_eqb XD_eqb eqb_eq
  eqb_ne XO_un XD_un un_not NM_norm Bool.not_true Bool.not_false
end Go.Vm
