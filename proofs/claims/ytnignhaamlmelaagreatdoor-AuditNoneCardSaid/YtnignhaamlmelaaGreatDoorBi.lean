import Derived.Test.YtnignhaamlmelaaGreatDoorRp
namespace Go.Proofs
open Go Go.Sl
set_option maxRecDepth 4000
attribute [local irreducible] Ex Run Ct Kt.body Sat Ent
theorem bits_Len64 (x : Nat) (hx : x < 2 ^ 64) : Ct Tryz.prog 294 [wd x] [] (exi (fun v : Int => it v) (fun _ => []) (fun v => 0 ≤ v ∧ v ≤ 1000)) := by
  have k1 := Nat.shiftRight_le x 32
  refine ct_intro Tryz.func294 rfl Tryz.ntmps294 Tryz.results294 fun R => e_nf ?_
  repeat (first | refine r_p ?_ | refine r_l ?_ | refine r_s ?_ | refine r_n fun _ => ?_ | refine r_end ?_ | refine e_r ?_ | refine e_j ?_ | refine e_true ?_ | refine e_false ?_ | refine r_tt ?_ | refine r_ff ?_ | refine e_tt ?_ | refine e_ff ?_)
  refine e_if (fun h1 => ?_) (fun h1 => ?_)
  all_goals
    repeat (first | refine r_p ?_ | refine r_l ?_ | refine r_s ?_ | refine r_n fun _ => ?_ | refine r_end ?_ | refine e_r ?_ | refine e_j ?_ | refine e_true ?_ | refine e_false ?_ | refine r_tt ?_ | refine r_ff ?_ | refine e_tt ?_ | refine e_ff ?_)
    refine e_if (fun h2 => ?_) (fun h2 => ?_)
  all_goals
    repeat (first | refine r_p ?_ | refine r_l ?_ | refine r_s ?_ | refine r_n fun _ => ?_ | refine r_end ?_ | refine e_r ?_ | refine e_j ?_ | refine e_true ?_ | refine e_false ?_ | refine r_tt ?_ | refine r_ff ?_ | refine e_tt ?_ | refine e_ff ?_)
    refine e_if (fun h3 => ?_) (fun h3 => ?_)
  all_goals
    repeat (first | refine r_p ?_ | refine r_l ?_ | refine r_s ?_ | refine r_n fun _ => ?_ | refine r_end ?_ | refine e_r ?_ | refine e_j ?_ | refine e_true ?_ | refine e_false ?_ | refine r_tt ?_ | refine r_ff ?_ | refine e_tt ?_ | refine e_ff ?_)
    refine r_ixs fun v hv => ?_
    repeat (first | refine r_p ?_ | refine r_l ?_ | refine r_s ?_ | refine r_n fun _ => ?_ | refine r_end ?_ | refine e_r ?_ | refine e_j ?_ | refine e_true ?_ | refine e_false ?_ | refine r_tt ?_ | refine r_ff ?_ | refine e_tt ?_ | refine e_ff ?_)
  all_goals
    refine e_retx _ ?_ ?_
    · omega
    · (refine Prm.ent ?_; repeat (first | exact Prm.refl _ | (apply Prm.take; repeat (first | exact Sel.here _ _ | apply Sel.there)) | refine Prm.drop ?_))
theorem bits_Len (x : Nat) (hx : x < 2 ^ 64) : Ct Tryz.prog 222 [wd x] [] (exi (fun v : Int => it v) (fun _ => []) (fun v => 0 ≤ v ∧ v ≤ 1000)) := by
  refine ct_intro Tryz.func222 rfl Tryz.ntmps222 Tryz.results222 fun R => e_nf ?_
  repeat (first | refine r_p ?_ | refine r_l ?_ | refine r_s ?_ | refine r_n fun _ => ?_ | refine r_end ?_ | refine e_r ?_ | refine e_j ?_ | refine e_true ?_ | refine e_false ?_ | refine r_tt ?_ | refine r_ff ?_ | refine e_tt ?_ | refine e_ff ?_)
  refine r_x (bits_Len64 x hx) fun v hv => ?_
  repeat (first | refine r_p ?_ | refine r_l ?_ | refine r_s ?_ | refine r_n fun _ => ?_ | refine r_end ?_ | refine e_r ?_ | refine e_j ?_ | refine e_true ?_ | refine e_false ?_ | refine r_tt ?_ | refine r_ff ?_ | refine e_tt ?_ | refine e_ff ?_)
  refine e_retx v hv ?_
  (refine Prm.ent ?_; repeat (first | exact Prm.refl _ | (apply Prm.take; repeat (first | exact Sel.here _ _ | apply Sel.there)) | refine Prm.drop ?_))
