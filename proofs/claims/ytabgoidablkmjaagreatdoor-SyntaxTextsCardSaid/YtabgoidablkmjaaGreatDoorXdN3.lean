/- The law of texts where a name is none, or the two are the same. -/
import Derived.Test.YtabgoidablkmjaaGreatDoorXdN1
import Derived.Test.YtabgoidablkmjaaGreatDoorXdM1
set_option linter.unusedVariables false
set_option linter.unusedSimpArgs false
namespace Go.Vd.L
open Go.Vd

theorem rt8 : Rt Ck 8 [] H0 fun v H' => v = .bool true ∧ H' = H1 := by
  unfold Rt
  exact ⟨1, _, _, rfl, rfl, rfl⟩

theorem texts_early (x y : List UInt8) (d : Int) (hbad : (boundB x && boundB y && !strEq x y && !strEq x [65] && !strEq y [65]) = false) : Rt Ck 4 [.str x, .str y, .int .u8 d] H0 fun v H' => v = .bool true ∧ H' = H1 := by
  refine Rt.enter (af := c4) rfl rfl ?_
  repeat' (first | refine Wc.seq ?_ | refine Wc.block ?_ | refine Wc.scope ?_ | refine Wc.reg ?_ | refine Wc.skip ?_ | refine Wc.ret ?_ | refine Wc.exit ?_ | refine Fin.seq ?_ | refine Fin.seq_exit ?_ | refine Fin.seq_ret ?_ | refine Fin.block ?_ | refine Fin.block_ret ?_ | refine Fin.block_here ?_ | refine Fin.block_on rfl ?_ | refine Wo.nil ?_ | refine Wc.cond_t rfl ?_ | refine Wc.cond_f rfl ?_ | refine Wo.skip rfl ?_ | refine Wo.val rfl (.mv rfl) ?_ | refine Wo.val rfl (.pick_t rfl rfl) ?_ | refine Wo.val rfl (.pick_f rfl rfl) ?_ | refine Wo.val rfl (.chk rfl rfl) ?_ | refine Wo.val rfl (.bin rfl rfl rfl) ?_ | refine Wo.val rfl (.un rfl rfl) ?_ | refine Wo.val rfl (.conv_int rfl) ?_ | refine Wo.val rfl (.conv_same rfl) ?_ | refine Wo.val rfl (.mki rfl) ?_ | refine Wo.val rfl (.fad rfl) ?_ | refine Wo.val rfl (.fld rfl rfl) ?_ | refine Wo.val rfl (.fldn rfl rfl) ?_ | refine Wo.val rfl (.tlen rfl) ?_ | refine Wo.val rfl (.len rfl) ?_ | refine Wo.val rfl (.len_nil rfl) ?_ | refine Wo.val rfl .alen ?_ | refine Wo.val rfl (.cap rfl) ?_ | refine Wo.val rfl (.ext rfl rfl) ?_ | refine Wo.val rfl (.build rfl rfl) ?_ | refine Wo.val rfl (.mkf rfl rfl) ?_ | refine Wo.val rfl (.sls rfl rfl rfl rfl) ?_ | refine Wo.val rfl (.ixt rfl rfl (by decide) rfl) ?_)
  refine Wo.call rfl rfl rt8 ?_
  rintro _ _ ⟨rfl, rfl⟩
  repeat' (first | refine Wc.seq ?_ | refine Wc.block ?_ | refine Wc.scope ?_ | refine Wc.reg ?_ | refine Wc.skip ?_ | refine Wc.ret ?_ | refine Wc.exit ?_ | refine Fin.seq ?_ | refine Fin.seq_exit ?_ | refine Fin.seq_ret ?_ | refine Fin.block ?_ | refine Fin.block_ret ?_ | refine Fin.block_here ?_ | refine Fin.block_on rfl ?_ | refine Wo.nil ?_ | refine Wc.cond_t rfl ?_ | refine Wc.cond_f rfl ?_ | refine Wo.skip rfl ?_ | refine Wo.val rfl (.mv rfl) ?_ | refine Wo.val rfl (.pick_t rfl rfl) ?_ | refine Wo.val rfl (.pick_f rfl rfl) ?_ | refine Wo.val rfl (.chk rfl rfl) ?_ | refine Wo.val rfl (.bin rfl rfl rfl) ?_ | refine Wo.val rfl (.un rfl rfl) ?_ | refine Wo.val rfl (.conv_int rfl) ?_ | refine Wo.val rfl (.conv_same rfl) ?_ | refine Wo.val rfl (.mki rfl) ?_ | refine Wo.val rfl (.fad rfl) ?_ | refine Wo.val rfl (.fld rfl rfl) ?_ | refine Wo.val rfl (.fldn rfl rfl) ?_ | refine Wo.val rfl (.tlen rfl) ?_ | refine Wo.val rfl (.len rfl) ?_ | refine Wo.val rfl (.len_nil rfl) ?_ | refine Wo.val rfl .alen ?_ | refine Wo.val rfl (.cap rfl) ?_ | refine Wo.val rfl (.ext rfl rfl) ?_ | refine Wo.val rfl (.build rfl rfl) ?_ | refine Wo.val rfl (.mkf rfl rfl) ?_ | refine Wo.val rfl (.sls rfl rfl rfl rfl) ?_ | refine Wo.val rfl (.ixt rfl rfl (by decide) rfl) ?_)
  refine Wo.call rfl rfl (rt15 x _) ?_
  rintro _ _ ⟨rfl, rfl⟩
  repeat' (first | refine Wc.seq ?_ | refine Wc.block ?_ | refine Wc.scope ?_ | refine Wc.reg ?_ | refine Wc.skip ?_ | refine Wc.ret ?_ | refine Wc.exit ?_ | refine Fin.seq ?_ | refine Fin.seq_exit ?_ | refine Fin.seq_ret ?_ | refine Fin.block ?_ | refine Fin.block_ret ?_ | refine Fin.block_here ?_ | refine Fin.block_on rfl ?_ | refine Wo.nil ?_ | refine Wc.cond_t rfl ?_ | refine Wc.cond_f rfl ?_ | refine Wo.skip rfl ?_ | refine Wo.val rfl (.mv rfl) ?_ | refine Wo.val rfl (.pick_t rfl rfl) ?_ | refine Wo.val rfl (.pick_f rfl rfl) ?_ | refine Wo.val rfl (.chk rfl rfl) ?_ | refine Wo.val rfl (.bin rfl rfl rfl) ?_ | refine Wo.val rfl (.un rfl rfl) ?_ | refine Wo.val rfl (.conv_int rfl) ?_ | refine Wo.val rfl (.conv_same rfl) ?_ | refine Wo.val rfl (.mki rfl) ?_ | refine Wo.val rfl (.fad rfl) ?_ | refine Wo.val rfl (.fld rfl rfl) ?_ | refine Wo.val rfl (.fldn rfl rfl) ?_ | refine Wo.val rfl (.tlen rfl) ?_ | refine Wo.val rfl (.len rfl) ?_ | refine Wo.val rfl (.len_nil rfl) ?_ | refine Wo.val rfl .alen ?_ | refine Wo.val rfl (.cap rfl) ?_ | refine Wo.val rfl (.ext rfl rfl) ?_ | refine Wo.val rfl (.build rfl rfl) ?_ | refine Wo.val rfl (.mkf rfl rfl) ?_ | refine Wo.val rfl (.sls rfl rfl rfl rfl) ?_ | refine Wo.val rfl (.ixt rfl rfl (by decide) rfl) ?_)
  refine Wo.branch rfl (fun b1 => ?_) (fun b1 => ?_)
  · repeat' (first | refine Wc.seq ?_ | refine Wc.block ?_ | refine Wc.scope ?_ | refine Wc.reg ?_ | refine Wc.skip ?_ | refine Wc.ret ?_ | refine Wc.exit ?_ | refine Fin.seq ?_ | refine Fin.seq_exit ?_ | refine Fin.seq_ret ?_ | refine Fin.block ?_ | refine Fin.block_ret ?_ | refine Fin.block_here ?_ | refine Fin.block_on rfl ?_ | refine Wo.nil ?_ | refine Wc.cond_t rfl ?_ | refine Wc.cond_f rfl ?_ | refine Wo.skip rfl ?_ | refine Wo.val rfl (.mv rfl) ?_ | refine Wo.val rfl (.pick_t rfl rfl) ?_ | refine Wo.val rfl (.pick_f rfl rfl) ?_ | refine Wo.val rfl (.chk rfl rfl) ?_ | refine Wo.val rfl (.bin rfl rfl rfl) ?_ | refine Wo.val rfl (.un rfl rfl) ?_ | refine Wo.val rfl (.conv_int rfl) ?_ | refine Wo.val rfl (.conv_same rfl) ?_ | refine Wo.val rfl (.mki rfl) ?_ | refine Wo.val rfl (.fad rfl) ?_ | refine Wo.val rfl (.fld rfl rfl) ?_ | refine Wo.val rfl (.fldn rfl rfl) ?_ | refine Wo.val rfl (.tlen rfl) ?_ | refine Wo.val rfl (.len rfl) ?_ | refine Wo.val rfl (.len_nil rfl) ?_ | refine Wo.val rfl .alen ?_ | refine Wo.val rfl (.cap rfl) ?_ | refine Wo.val rfl (.ext rfl rfl) ?_ | refine Wo.val rfl (.build rfl rfl) ?_ | refine Wo.val rfl (.mkf rfl rfl) ?_ | refine Wo.val rfl (.sls rfl rfl rfl rfl) ?_ | refine Wo.val rfl (.ixt rfl rfl (by decide) rfl) ?_)
    exact Fin.kret rfl ⟨rfl, rfl⟩
  repeat' (first | refine Wc.seq ?_ | refine Wc.block ?_ | refine Wc.scope ?_ | refine Wc.reg ?_ | refine Wc.skip ?_ | refine Wc.ret ?_ | refine Wc.exit ?_ | refine Fin.seq ?_ | refine Fin.seq_exit ?_ | refine Fin.seq_ret ?_ | refine Fin.block ?_ | refine Fin.block_ret ?_ | refine Fin.block_here ?_ | refine Fin.block_on rfl ?_ | refine Wo.nil ?_ | refine Wc.cond_t rfl ?_ | refine Wc.cond_f rfl ?_ | refine Wo.skip rfl ?_ | refine Wo.val rfl (.mv rfl) ?_ | refine Wo.val rfl (.pick_t rfl rfl) ?_ | refine Wo.val rfl (.pick_f rfl rfl) ?_ | refine Wo.val rfl (.chk rfl rfl) ?_ | refine Wo.val rfl (.bin rfl rfl rfl) ?_ | refine Wo.val rfl (.un rfl rfl) ?_ | refine Wo.val rfl (.conv_int rfl) ?_ | refine Wo.val rfl (.conv_same rfl) ?_ | refine Wo.val rfl (.mki rfl) ?_ | refine Wo.val rfl (.fad rfl) ?_ | refine Wo.val rfl (.fld rfl rfl) ?_ | refine Wo.val rfl (.fldn rfl rfl) ?_ | refine Wo.val rfl (.tlen rfl) ?_ | refine Wo.val rfl (.len rfl) ?_ | refine Wo.val rfl (.len_nil rfl) ?_ | refine Wo.val rfl .alen ?_ | refine Wo.val rfl (.cap rfl) ?_ | refine Wo.val rfl (.ext rfl rfl) ?_ | refine Wo.val rfl (.build rfl rfl) ?_ | refine Wo.val rfl (.mkf rfl rfl) ?_ | refine Wo.val rfl (.sls rfl rfl rfl rfl) ?_ | refine Wo.val rfl (.ixt rfl rfl (by decide) rfl) ?_)
  refine Wo.call rfl rfl (rt15 y _) ?_
  rintro _ _ ⟨rfl, rfl⟩
  repeat' (first | refine Wc.seq ?_ | refine Wc.block ?_ | refine Wc.scope ?_ | refine Wc.reg ?_ | refine Wc.skip ?_ | refine Wc.ret ?_ | refine Wc.exit ?_ | refine Fin.seq ?_ | refine Fin.seq_exit ?_ | refine Fin.seq_ret ?_ | refine Fin.block ?_ | refine Fin.block_ret ?_ | refine Fin.block_here ?_ | refine Fin.block_on rfl ?_ | refine Wo.nil ?_ | refine Wc.cond_t rfl ?_ | refine Wc.cond_f rfl ?_ | refine Wo.skip rfl ?_ | refine Wo.val rfl (.mv rfl) ?_ | refine Wo.val rfl (.pick_t rfl rfl) ?_ | refine Wo.val rfl (.pick_f rfl rfl) ?_ | refine Wo.val rfl (.chk rfl rfl) ?_ | refine Wo.val rfl (.bin rfl rfl rfl) ?_ | refine Wo.val rfl (.un rfl rfl) ?_ | refine Wo.val rfl (.conv_int rfl) ?_ | refine Wo.val rfl (.conv_same rfl) ?_ | refine Wo.val rfl (.mki rfl) ?_ | refine Wo.val rfl (.fad rfl) ?_ | refine Wo.val rfl (.fld rfl rfl) ?_ | refine Wo.val rfl (.fldn rfl rfl) ?_ | refine Wo.val rfl (.tlen rfl) ?_ | refine Wo.val rfl (.len rfl) ?_ | refine Wo.val rfl (.len_nil rfl) ?_ | refine Wo.val rfl .alen ?_ | refine Wo.val rfl (.cap rfl) ?_ | refine Wo.val rfl (.ext rfl rfl) ?_ | refine Wo.val rfl (.build rfl rfl) ?_ | refine Wo.val rfl (.mkf rfl rfl) ?_ | refine Wo.val rfl (.sls rfl rfl rfl rfl) ?_ | refine Wo.val rfl (.ixt rfl rfl (by decide) rfl) ?_)
  refine Wo.branch rfl (fun b2 => ?_) (fun b2 => ?_)
  · repeat' (first | refine Wc.seq ?_ | refine Wc.block ?_ | refine Wc.scope ?_ | refine Wc.reg ?_ | refine Wc.skip ?_ | refine Wc.ret ?_ | refine Wc.exit ?_ | refine Fin.seq ?_ | refine Fin.seq_exit ?_ | refine Fin.seq_ret ?_ | refine Fin.block ?_ | refine Fin.block_ret ?_ | refine Fin.block_here ?_ | refine Fin.block_on rfl ?_ | refine Wo.nil ?_ | refine Wc.cond_t rfl ?_ | refine Wc.cond_f rfl ?_ | refine Wo.skip rfl ?_ | refine Wo.val rfl (.mv rfl) ?_ | refine Wo.val rfl (.pick_t rfl rfl) ?_ | refine Wo.val rfl (.pick_f rfl rfl) ?_ | refine Wo.val rfl (.chk rfl rfl) ?_ | refine Wo.val rfl (.bin rfl rfl rfl) ?_ | refine Wo.val rfl (.un rfl rfl) ?_ | refine Wo.val rfl (.conv_int rfl) ?_ | refine Wo.val rfl (.conv_same rfl) ?_ | refine Wo.val rfl (.mki rfl) ?_ | refine Wo.val rfl (.fad rfl) ?_ | refine Wo.val rfl (.fld rfl rfl) ?_ | refine Wo.val rfl (.fldn rfl rfl) ?_ | refine Wo.val rfl (.tlen rfl) ?_ | refine Wo.val rfl (.len rfl) ?_ | refine Wo.val rfl (.len_nil rfl) ?_ | refine Wo.val rfl .alen ?_ | refine Wo.val rfl (.cap rfl) ?_ | refine Wo.val rfl (.ext rfl rfl) ?_ | refine Wo.val rfl (.build rfl rfl) ?_ | refine Wo.val rfl (.mkf rfl rfl) ?_ | refine Wo.val rfl (.sls rfl rfl rfl rfl) ?_ | refine Wo.val rfl (.ixt rfl rfl (by decide) rfl) ?_)
    exact Fin.kret rfl ⟨rfl, rfl⟩
  repeat' (first | refine Wc.seq ?_ | refine Wc.block ?_ | refine Wc.scope ?_ | refine Wc.reg ?_ | refine Wc.skip ?_ | refine Wc.ret ?_ | refine Wc.exit ?_ | refine Fin.seq ?_ | refine Fin.seq_exit ?_ | refine Fin.seq_ret ?_ | refine Fin.block ?_ | refine Fin.block_ret ?_ | refine Fin.block_here ?_ | refine Fin.block_on rfl ?_ | refine Wo.nil ?_ | refine Wc.cond_t rfl ?_ | refine Wc.cond_f rfl ?_ | refine Wo.skip rfl ?_ | refine Wo.val rfl (.mv rfl) ?_ | refine Wo.val rfl (.pick_t rfl rfl) ?_ | refine Wo.val rfl (.pick_f rfl rfl) ?_ | refine Wo.val rfl (.chk rfl rfl) ?_ | refine Wo.val rfl (.bin rfl rfl rfl) ?_ | refine Wo.val rfl (.un rfl rfl) ?_ | refine Wo.val rfl (.conv_int rfl) ?_ | refine Wo.val rfl (.conv_same rfl) ?_ | refine Wo.val rfl (.mki rfl) ?_ | refine Wo.val rfl (.fad rfl) ?_ | refine Wo.val rfl (.fld rfl rfl) ?_ | refine Wo.val rfl (.fldn rfl rfl) ?_ | refine Wo.val rfl (.tlen rfl) ?_ | refine Wo.val rfl (.len rfl) ?_ | refine Wo.val rfl (.len_nil rfl) ?_ | refine Wo.val rfl .alen ?_ | refine Wo.val rfl (.cap rfl) ?_ | refine Wo.val rfl (.ext rfl rfl) ?_ | refine Wo.val rfl (.build rfl rfl) ?_ | refine Wo.val rfl (.mkf rfl rfl) ?_ | refine Wo.val rfl (.sls rfl rfl rfl rfl) ?_ | refine Wo.val rfl (.ixt rfl rfl (by decide) rfl) ?_)
  refine Wo.branch rfl (fun b3 => ?_) (fun b3 => ?_)
  · repeat' (first | refine Wc.seq ?_ | refine Wc.block ?_ | refine Wc.scope ?_ | refine Wc.reg ?_ | refine Wc.skip ?_ | refine Wc.ret ?_ | refine Wc.exit ?_ | refine Fin.seq ?_ | refine Fin.seq_exit ?_ | refine Fin.seq_ret ?_ | refine Fin.block ?_ | refine Fin.block_ret ?_ | refine Fin.block_here ?_ | refine Fin.block_on rfl ?_ | refine Wo.nil ?_ | refine Wc.cond_t rfl ?_ | refine Wc.cond_f rfl ?_ | refine Wo.skip rfl ?_ | refine Wo.val rfl (.mv rfl) ?_ | refine Wo.val rfl (.pick_t rfl rfl) ?_ | refine Wo.val rfl (.pick_f rfl rfl) ?_ | refine Wo.val rfl (.chk rfl rfl) ?_ | refine Wo.val rfl (.bin rfl rfl rfl) ?_ | refine Wo.val rfl (.un rfl rfl) ?_ | refine Wo.val rfl (.conv_int rfl) ?_ | refine Wo.val rfl (.conv_same rfl) ?_ | refine Wo.val rfl (.mki rfl) ?_ | refine Wo.val rfl (.fad rfl) ?_ | refine Wo.val rfl (.fld rfl rfl) ?_ | refine Wo.val rfl (.fldn rfl rfl) ?_ | refine Wo.val rfl (.tlen rfl) ?_ | refine Wo.val rfl (.len rfl) ?_ | refine Wo.val rfl (.len_nil rfl) ?_ | refine Wo.val rfl .alen ?_ | refine Wo.val rfl (.cap rfl) ?_ | refine Wo.val rfl (.ext rfl rfl) ?_ | refine Wo.val rfl (.build rfl rfl) ?_ | refine Wo.val rfl (.mkf rfl rfl) ?_ | refine Wo.val rfl (.sls rfl rfl rfl rfl) ?_ | refine Wo.val rfl (.ixt rfl rfl (by decide) rfl) ?_)
    exact Fin.kret rfl ⟨rfl, rfl⟩
  repeat' (first | refine Wc.seq ?_ | refine Wc.block ?_ | refine Wc.scope ?_ | refine Wc.reg ?_ | refine Wc.skip ?_ | refine Wc.ret ?_ | refine Wc.exit ?_ | refine Fin.seq ?_ | refine Fin.seq_exit ?_ | refine Fin.seq_ret ?_ | refine Fin.block ?_ | refine Fin.block_ret ?_ | refine Fin.block_here ?_ | refine Fin.block_on rfl ?_ | refine Wo.nil ?_ | refine Wc.cond_t rfl ?_ | refine Wc.cond_f rfl ?_ | refine Wo.skip rfl ?_ | refine Wo.val rfl (.mv rfl) ?_ | refine Wo.val rfl (.pick_t rfl rfl) ?_ | refine Wo.val rfl (.pick_f rfl rfl) ?_ | refine Wo.val rfl (.chk rfl rfl) ?_ | refine Wo.val rfl (.bin rfl rfl rfl) ?_ | refine Wo.val rfl (.un rfl rfl) ?_ | refine Wo.val rfl (.conv_int rfl) ?_ | refine Wo.val rfl (.conv_same rfl) ?_ | refine Wo.val rfl (.mki rfl) ?_ | refine Wo.val rfl (.fad rfl) ?_ | refine Wo.val rfl (.fld rfl rfl) ?_ | refine Wo.val rfl (.fldn rfl rfl) ?_ | refine Wo.val rfl (.tlen rfl) ?_ | refine Wo.val rfl (.len rfl) ?_ | refine Wo.val rfl (.len_nil rfl) ?_ | refine Wo.val rfl .alen ?_ | refine Wo.val rfl (.cap rfl) ?_ | refine Wo.val rfl (.ext rfl rfl) ?_ | refine Wo.val rfl (.build rfl rfl) ?_ | refine Wo.val rfl (.mkf rfl rfl) ?_ | refine Wo.val rfl (.sls rfl rfl rfl rfl) ?_ | refine Wo.val rfl (.ixt rfl rfl (by decide) rfl) ?_)
  refine Wo.branch rfl (fun b4 => ?_) (fun b4 => ?_)
  · repeat' (first | refine Wc.seq ?_ | refine Wc.block ?_ | refine Wc.scope ?_ | refine Wc.reg ?_ | refine Wc.skip ?_ | refine Wc.ret ?_ | refine Wc.exit ?_ | refine Fin.seq ?_ | refine Fin.seq_exit ?_ | refine Fin.seq_ret ?_ | refine Fin.block ?_ | refine Fin.block_ret ?_ | refine Fin.block_here ?_ | refine Fin.block_on rfl ?_ | refine Wo.nil ?_ | refine Wc.cond_t rfl ?_ | refine Wc.cond_f rfl ?_ | refine Wo.skip rfl ?_ | refine Wo.val rfl (.mv rfl) ?_ | refine Wo.val rfl (.pick_t rfl rfl) ?_ | refine Wo.val rfl (.pick_f rfl rfl) ?_ | refine Wo.val rfl (.chk rfl rfl) ?_ | refine Wo.val rfl (.bin rfl rfl rfl) ?_ | refine Wo.val rfl (.un rfl rfl) ?_ | refine Wo.val rfl (.conv_int rfl) ?_ | refine Wo.val rfl (.conv_same rfl) ?_ | refine Wo.val rfl (.mki rfl) ?_ | refine Wo.val rfl (.fad rfl) ?_ | refine Wo.val rfl (.fld rfl rfl) ?_ | refine Wo.val rfl (.fldn rfl rfl) ?_ | refine Wo.val rfl (.tlen rfl) ?_ | refine Wo.val rfl (.len rfl) ?_ | refine Wo.val rfl (.len_nil rfl) ?_ | refine Wo.val rfl .alen ?_ | refine Wo.val rfl (.cap rfl) ?_ | refine Wo.val rfl (.ext rfl rfl) ?_ | refine Wo.val rfl (.build rfl rfl) ?_ | refine Wo.val rfl (.mkf rfl rfl) ?_ | refine Wo.val rfl (.sls rfl rfl rfl rfl) ?_ | refine Wo.val rfl (.ixt rfl rfl (by decide) rfl) ?_)
    exact Fin.kret rfl ⟨rfl, rfl⟩
  repeat' (first | refine Wc.seq ?_ | refine Wc.block ?_ | refine Wc.scope ?_ | refine Wc.reg ?_ | refine Wc.skip ?_ | refine Wc.ret ?_ | refine Wc.exit ?_ | refine Fin.seq ?_ | refine Fin.seq_exit ?_ | refine Fin.seq_ret ?_ | refine Fin.block ?_ | refine Fin.block_ret ?_ | refine Fin.block_here ?_ | refine Fin.block_on rfl ?_ | refine Wo.nil ?_ | refine Wc.cond_t rfl ?_ | refine Wc.cond_f rfl ?_ | refine Wo.skip rfl ?_ | refine Wo.val rfl (.mv rfl) ?_ | refine Wo.val rfl (.pick_t rfl rfl) ?_ | refine Wo.val rfl (.pick_f rfl rfl) ?_ | refine Wo.val rfl (.chk rfl rfl) ?_ | refine Wo.val rfl (.bin rfl rfl rfl) ?_ | refine Wo.val rfl (.un rfl rfl) ?_ | refine Wo.val rfl (.conv_int rfl) ?_ | refine Wo.val rfl (.conv_same rfl) ?_ | refine Wo.val rfl (.mki rfl) ?_ | refine Wo.val rfl (.fad rfl) ?_ | refine Wo.val rfl (.fld rfl rfl) ?_ | refine Wo.val rfl (.fldn rfl rfl) ?_ | refine Wo.val rfl (.tlen rfl) ?_ | refine Wo.val rfl (.len rfl) ?_ | refine Wo.val rfl (.len_nil rfl) ?_ | refine Wo.val rfl .alen ?_ | refine Wo.val rfl (.cap rfl) ?_ | refine Wo.val rfl (.ext rfl rfl) ?_ | refine Wo.val rfl (.build rfl rfl) ?_ | refine Wo.val rfl (.mkf rfl rfl) ?_ | refine Wo.val rfl (.sls rfl rfl rfl rfl) ?_ | refine Wo.val rfl (.ixt rfl rfl (by decide) rfl) ?_)
  refine Wc.ifs rfl (fun b5 => ?_) (fun b5 => ?_)
  · repeat' (first | refine Wc.seq ?_ | refine Wc.block ?_ | refine Wc.scope ?_ | refine Wc.reg ?_ | refine Wc.skip ?_ | refine Wc.ret ?_ | refine Wc.exit ?_ | refine Fin.seq ?_ | refine Fin.seq_exit ?_ | refine Fin.seq_ret ?_ | refine Fin.block ?_ | refine Fin.block_ret ?_ | refine Fin.block_here ?_ | refine Fin.block_on rfl ?_ | refine Wo.nil ?_ | refine Wc.cond_t rfl ?_ | refine Wc.cond_f rfl ?_ | refine Wo.skip rfl ?_ | refine Wo.val rfl (.mv rfl) ?_ | refine Wo.val rfl (.pick_t rfl rfl) ?_ | refine Wo.val rfl (.pick_f rfl rfl) ?_ | refine Wo.val rfl (.chk rfl rfl) ?_ | refine Wo.val rfl (.bin rfl rfl rfl) ?_ | refine Wo.val rfl (.un rfl rfl) ?_ | refine Wo.val rfl (.conv_int rfl) ?_ | refine Wo.val rfl (.conv_same rfl) ?_ | refine Wo.val rfl (.mki rfl) ?_ | refine Wo.val rfl (.fad rfl) ?_ | refine Wo.val rfl (.fld rfl rfl) ?_ | refine Wo.val rfl (.fldn rfl rfl) ?_ | refine Wo.val rfl (.tlen rfl) ?_ | refine Wo.val rfl (.len rfl) ?_ | refine Wo.val rfl (.len_nil rfl) ?_ | refine Wo.val rfl .alen ?_ | refine Wo.val rfl (.cap rfl) ?_ | refine Wo.val rfl (.ext rfl rfl) ?_ | refine Wo.val rfl (.build rfl rfl) ?_ | refine Wo.val rfl (.mkf rfl rfl) ?_ | refine Wo.val rfl (.sls rfl rfl rfl rfl) ?_ | refine Wo.val rfl (.ixt rfl rfl (by decide) rfl) ?_)
    exact Fin.kret rfl ⟨rfl, rfl⟩
  · exfalso
    simp only [Bool.not_eq_false'] at b1 b2
    rw [b1, b2, b3, b4, b5] at hbad
    cases hbad
end Go.Vd.L
namespace Go.Vd.L
open Go.Vd Go.Proofs Go.Proofs.YtabgoidablkmjaaGreatDoor

theorem cellA_VR {φ : Mp} {v : Value} (h : VR φ (.ifc 109 (.agg [.hnd 7 31])) v) : v = cell0 := by
  simp only [VR, VRs] at h
  obtain ⟨y, rfl, vs, rfl, a, ws, rfl, rfl, rfl⟩ := h
  rfl

/-- What a run that answers true says of the program's call. -/
theorem true_gen {w : World} (hs : w.ShapedOpen Tryz.prog) (hL : laidMetH Tryz.prog laidS w) {C : Ctx} (hf : FnsOK Tryz.prog C) (hc : CtxOK Tryz.prog C) {φ : Mp} {Ha H : AH} (hR : R Tryz.prog.globals.size φ Ha w)
    (hφ : φ 0 = some ⟨0, 0, 1⟩) (hal : ∀ X, Ha.alive X → X = 0) {n f : Nat} {xs : List AV} {args : Array Value} (hr : run C n (.call f xs Ha) = some (.call (.ret (.bool true)) H)) (hg : H.get 0 = some cellA)
    (hv : VRs φ xs args.toList) : Calls Tryz.prog f args w fun e w' => e = .returned (.bool true) ∧ w.keptBut w' (fun _ => False) := by
  obtain ⟨args⟩ := args
  refine (run_calls hf hc hr hR hv).mono ?_
  intro e w' hp
  cases e with
  | returned v =>
    obtain ⟨ψ, u, h1, h2, h3, h4⟩ := hp
    cases h1
    simp only [VR] at h4
    subst h4
    refine ⟨rfl, h3.out.1, h3.out.2.1, fun i hi => ?_⟩
    have hi' : w'.heap[i]? = w.heap[i]? := by
      by_cases h0 : i = 0
      · subst h0
        have hp0 : ψ 0 = some ⟨0, 0, 1⟩ := h3.le 0 _ hφ
        have hb := h2.blk 0 _ hp0
        rw [hg] at hb
        obtain ⟨c, lo, hh, b1, b2, b3, b4, b5, b6⟩ := hb
        obtain ⟨⟨rfl, rfl⟩, _, hc⟩ := b4 rfl
        obtain ⟨v, v1, v2⟩ := b6 0 _ rfl
        have := cellA_VR v2
        subst this
        rw [block0 hs hL]
        show w'.heap[0]? = _
        rw [b1]
        have : c = #[cell0] := by
          obtain ⟨l⟩ := c
          match l, hc, v1 with
          | [x], _, v1 => simp at v1; rw [v1]
        rw [this]
      · refine h3.frame i hi fun X p hX hp hX2 => ?_
        have := hal X hX2
        subst this
        rw [hφ] at hX
        cases hX
        exact h0 hp.symm
    rw [hi']
    cases hw : w.heap[i]? with
    | none => trivial
    | some o => cases o <;> simp
  | panicked c =>
    obtain ⟨ψ, u, v, h1, _⟩ := hp
    cases h1
  | outgrown => exact hp.elim

theorem H0_alive (X : Nat) (h : H0.alive X) : X = 0 := by
  unfold AH.alive at h
  rw [get1] at h
  by_cases hz : X = 0
  · exact hz
  · rw [if_neg hz] at h; exact h.elim

theorem true_Ck {w : World} (hs : w.ShapedOpen Tryz.prog) (hL : laidMetH Tryz.prog laidS w) {f : Nat} {xs : List AV} {args : Array Value} (hr : Rt Ck f xs H0 fun v H' => v = .bool true ∧ H'.get 0 = some cellA)
    (hv : VRs phi0 xs args.toList) : Calls Tryz.prog f args w fun e w' => e = .returned (.bool true) ∧ w.keptBut w' (fun _ => False) := by
  unfold Rt at hr
  obtain ⟨n, v, H', h1, rfl, h2⟩ := hr
  exact true_gen hs hL fns_OKk ctx_okk (R0 hs hL) (by simp [phi0]) H0_alive h1 h2 hv

/-- The map with two names. -/
def phiS (x y : List UInt8) : Mp := fun X => if X = 7 then some ⟨0, encS x, 0⟩ else if X = 8 then some ⟨0, encS y, 0⟩ else phi0 X

theorem RS {w : World} (hs : w.ShapedOpen Tryz.prog) (hL : laidMetH Tryz.prog laidS w) {x y : List UInt8} (hx : goodB x = true) (hy : goodB y = true) (hne : x ≠ y) : R Tryz.prog.globals.size (phiS x y) HS w where
  lo := fun X p h => by
    have h0 := (R0 hs hL).lo 0 ⟨0, 0, 1⟩ (by simp [phi0])
    unfold phiS at h
    split at h
    · cases h; subst X; exact ⟨by decide, h0.2⟩
    · split at h
      · cases h; subst X; exact ⟨by decide, h0.2⟩
      · have := (R0 hs hL).lo X p h
        exact ⟨Nat.lt_of_lt_of_le this.1 (by decide), this.2⟩
  inj := fun X Y p q _ _ aX aY _ => by rw [HS_alive X aX, HS_alive Y aY]
  blk := fun X p h => by
    rw [HS_get]
    unfold phiS at h
    by_cases e8 : X = 8
    · subst e8
      rw [if_pos rfl]
      rw [if_neg (by omega), if_pos rfl] at h
      cases h
      refine ⟨by rw [decS_enc]; exact hy, fun Y hY => ?_⟩
      simp only [List.mem_singleton] at hY
      subst hY
      exact ⟨⟨0, encS x, 0⟩, by simp [phiS], by rw [decS_enc, decS_enc]; exact hne⟩
    rw [if_neg e8]
    by_cases e7 : X = 7
    · subst e7
      rw [if_pos rfl]
      rw [if_pos rfl] at h
      cases h
      refine ⟨by rw [decS_enc]; exact hx, fun Y hY => ?_⟩
      simp only [List.mem_singleton] at hY
      subst hY
      exact ⟨⟨0, encS y, 0⟩, by simp [phiS], by rw [decS_enc, decS_enc]; exact fun e => hne e.symm⟩
    rw [if_neg e7]
    rw [if_neg e7, if_neg e8] at h
    by_cases e0 : X = 0
    · subst e0
      rw [if_pos rfl]
      have := (R0 hs hL).blk 0 p h
      rw [get0] at this
      obtain ⟨c, lo, hh, b1, b2, b3, b4, b5, b6⟩ := this
      refine ⟨c, lo, hh, b1, b2, b3, b4, b5, ?_⟩
      intro i a hi
      obtain ⟨v, v1, v2⟩ := b6 i a hi
      match i, hi with
      | 0, hi =>
        simp at hi
        subst hi
        have := cellA_VR v2
        subst this
        exact ⟨cell0, v1, by simp [VR, VRs, cell0]⟩
    · rw [if_neg e0]; trivial
  gl := fun g hg => by
    obtain ⟨r, hr⟩ := (R0 hs hL).gl g hg
    rw [nGlobals] at hg
    exact ⟨r, by unfold phiS; rw [if_neg (by omega), if_neg (by omega)]; exact hr⟩

theorem okT_get {o : Option Out} (h : okT o = true) : ∃ H, o = some (.call (.ret (.bool true)) H) ∧ H.get 0 = some cellA := by
  unfold okT at h
  split at h
  · rename_i b H
    simp only [Bool.and_eq_true] at h
    obtain ⟨rfl, hg⟩ := h
    refine ⟨H, rfl, ?_⟩
    split at hg
    · rename_i x hx
      rw [hx, AV.beq_eq _ _ hg]
      rfl
    · cases hg
  · cases h

theorem true_S {w : World} (hs : w.ShapedOpen Tryz.prog) (hL : laidMetH Tryz.prog laidS w) {x y : List UInt8} (hx : goodB x = true) (hy : goodB y = true) (hne : x ≠ y) {n f : Nat} {xs : List AV} {args : Array Value}
    (hrun : okT (run Cs n (.call f xs HS)) = true) (hv : VRs (phiS x y) xs args.toList) : Calls Tryz.prog f args w fun e w' => e = .returned (.bool true) ∧ w.keptBut w' (fun _ => False) := by
  obtain ⟨H, h1, h2⟩ := okT_get hrun
  exact true_gen hs hL fns_OKs ctx_oks (RS hs hL hx hy hne) (by simp [phiS, phi0]) HS_alive h1 h2 hv
end Go.Vd.L
