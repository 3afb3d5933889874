import Derived.Test.YtnignhaamlmelaaGreatDoorBi
namespace Go.Proofs
open Go Go.Sl
set_option maxRecDepth 4000
attribute [local irreducible] Ex Run Ct Kt.body Sat Ent
/-! ### On none at all -/
theorem flaw_insertion0 (a : Option Addr) (f : Value) : Ct Tryz.prog 285 [.slice a 0 0, it 0, it 0, f] [] (det (.tuple #[]) []) := by
  refine ct_intro Tryz.func285 rfl Tryz.ntmps285 Tryz.results285 fun R => e_nf ?_
  repeat (first | refine r_p ?_ | refine r_l ?_ | refine r_s ?_ | refine r_n fun _ => ?_ | refine r_end ?_ | refine e_r ?_ | refine e_d pl285 ?_ | refine e_j ?_ | refine e_true ?_ | refine e_false ?_ | refine r_tt ?_ | refine r_ff ?_ | refine e_tt ?_ | refine e_ff ?_)
  refine e_loop (fun _ : Unit => True) (fun _ => ⟨53, [(2, it 0), (8, it 1)], []⟩) (fun _ => R) (fun _ => 0) () trivial (by repeat (first | exact le_nil | refine le_cons ?_)) (by (refine Prm.ent ?_; repeat (first | exact Prm.refl _ | (apply Prm.take; repeat (first | exact Sel.here _ _ | apply Sel.there)) | refine Prm.drop ?_))) fun _ _ => ?_
  repeat (first | refine r_p ?_ | refine r_l ?_ | refine r_s ?_ | refine r_n fun _ => ?_ | refine r_end ?_ | refine e_r ?_ | refine e_d pl285 ?_ | refine e_j ?_ | refine e_true ?_ | refine e_false ?_ | refine r_tt ?_ | refine r_ff ?_ | refine e_tt ?_ | refine e_ff ?_)
  refine e_ret0 ?_
  (refine Prm.ent ?_; repeat (first | exact Prm.refl _ | (apply Prm.take; repeat (first | exact Sel.here _ _ | apply Sel.there)) | refine Prm.drop ?_))
theorem flaw_pdq0 (a : Option Addr) (f : Value) (l : Int) : Ct Tryz.prog 221 [.slice a 0 0, it 0, it 0, it l, f] [] (det (.tuple #[]) []) := by
  refine ct_intro Tryz.func221 rfl Tryz.ntmps221 Tryz.results221 fun R => e_nf ?_
  repeat (first | refine r_p ?_ | refine r_l ?_ | refine r_s ?_ | refine r_n fun _ => ?_ | refine r_end ?_ | refine e_r ?_ | refine e_d pl221 ?_ | refine e_j ?_ | refine e_true ?_ | refine e_false ?_ | refine r_tt ?_ | refine r_ff ?_ | refine e_tt ?_ | refine e_ff ?_)
  refine e_loop (fun _ : Unit => True) (fun _ => ⟨148, [(0, .slice a 0 0), (1, it 0), (2, it 0), (4, f)], []⟩) (fun _ => R) (fun _ => 0) () trivial (by repeat (first | exact le_nil | refine le_cons ?_)) (by (refine Prm.ent ?_; repeat (first | exact Prm.refl _ | (apply Prm.take; repeat (first | exact Sel.here _ _ | apply Sel.there)) | refine Prm.drop ?_))) fun _ _ => ?_
  repeat (first | refine r_p ?_ | refine r_l ?_ | refine r_s ?_ | refine r_n fun _ => ?_ | refine r_end ?_ | refine e_r ?_ | refine e_d pl221 ?_ | refine e_j ?_ | refine e_true ?_ | refine e_false ?_ | refine r_tt ?_ | refine r_ff ?_ | refine e_tt ?_ | refine e_ff ?_)
  refine r_c (flaw_insertion0 a f) ?_
  repeat (first | refine r_p ?_ | refine r_l ?_ | refine r_s ?_ | refine r_n fun _ => ?_ | refine r_end ?_ | refine e_r ?_ | refine e_d pl221 ?_ | refine e_j ?_ | refine e_true ?_ | refine e_false ?_ | refine r_tt ?_ | refine r_ff ?_ | refine e_tt ?_ | refine e_ff ?_)
  refine e_ret0 ?_
  (refine Prm.ent ?_; repeat (first | exact Prm.refl _ | (apply Prm.take; repeat (first | exact Sel.here _ _ | apply Sel.there)) | refine Prm.drop ?_))
theorem flaw_Sort0 (a : Option Addr) (f : Value) : Ct Tryz.prog 103 [.slice a 0 0, f] [] (det (.tuple #[]) []) := by
  refine ct_intro Tryz.func103 rfl Tryz.ntmps103 Tryz.results103 fun R => e_nf ?_
  repeat (first | refine r_p ?_ | refine r_l ?_ | refine r_s ?_ | refine r_n fun _ => ?_ | refine r_end ?_ | refine e_r ?_ | refine e_j ?_ | refine e_true ?_ | refine e_false ?_ | refine r_tt ?_ | refine r_ff ?_ | refine e_tt ?_ | refine e_ff ?_)
  refine r_x (bits_Len 0 (by decide)) fun v hv => ?_
  repeat (first | refine r_p ?_ | refine r_l ?_ | refine r_s ?_ | refine r_n fun _ => ?_ | refine r_end ?_ | refine e_r ?_ | refine e_j ?_ | refine e_true ?_ | refine e_false ?_ | refine r_tt ?_ | refine r_ff ?_ | refine e_tt ?_ | refine e_ff ?_)
  refine r_c (flaw_pdq0 a f v) ?_
  repeat (first | refine r_p ?_ | refine r_l ?_ | refine r_s ?_ | refine r_n fun _ => ?_ | refine r_end ?_ | refine e_r ?_ | refine e_j ?_ | refine e_true ?_ | refine e_false ?_ | refine r_tt ?_ | refine r_ff ?_ | refine e_tt ?_ | refine e_ff ?_)
  refine e_ret0 ?_
  (refine Prm.ent ?_; repeat (first | exact Prm.refl _ | (apply Prm.take; repeat (first | exact Sel.here _ _ | apply Sel.there)) | refine Prm.drop ?_))
theorem flaw_Compact0 (a : Option Addr) : Ct Tryz.prog 107 [.slice a 0 0] [] (det (.slice a 0 0) []) := by
  refine ct_intro Tryz.func107 rfl Tryz.ntmps107 Tryz.results107 fun R => e_nf ?_
  repeat (first | refine r_p ?_ | refine r_l ?_ | refine r_s ?_ | refine r_n fun _ => ?_ | refine r_end ?_ | refine e_r ?_ | refine e_d pl107 ?_ | refine e_j ?_ | refine e_true ?_ | refine e_false ?_ | refine r_tt ?_ | refine r_ff ?_ | refine e_tt ?_ | refine e_ff ?_)
  refine e_ret0 ?_
  (refine Prm.ent ?_; repeat (first | exact Prm.refl _ | (apply Prm.take; repeat (first | exact Sel.here _ _ | apply Sel.there)) | refine Prm.drop ?_))
/-! ### Of no heap -/
theorem audit_none0 : Ct Tryz.prog 95 [.pointer none] [] (det (.bool true) []) := by
  refine ct_intro Tryz.func95 rfl Tryz.ntmps95 Tryz.results95 fun R => e_nf ?_
  repeat (first | refine r_p ?_ | refine r_l ?_ | refine r_s ?_ | refine r_n fun _ => ?_ | refine r_end ?_ | refine e_r ?_ | refine e_j ?_ | refine e_true ?_ | refine e_false ?_ | refine r_tt ?_ | refine r_ff ?_ | refine e_tt ?_ | refine e_ff ?_)
  refine e_ret0 ?_
  (refine Prm.ent ?_; repeat (first | exact Prm.refl _ | (apply Prm.take; repeat (first | exact Sel.here _ _ | apply Sel.there)) | refine Prm.drop ?_))
abbrev hpN (b : Nat) : SP := cl b [.pointer none, it 0, .pointer none, .pointer none] 54
theorem audit_noneN (b : Nat) : Ct Tryz.prog 95 [ptr b] [hpN b] (det (.bool true) [hpN b]) := by
  refine ct_intro Tryz.func95 rfl Tryz.ntmps95 Tryz.results95 fun R => e_nf ?_
  repeat (first | refine r_p ?_ | refine r_l ?_ | refine r_s ?_ | refine r_n fun _ => ?_ | refine r_end ?_ | refine e_r ?_ | refine e_j ?_ | refine e_true ?_ | refine e_false ?_ | refine r_tt ?_ | refine r_ff ?_ | refine e_tt ?_ | refine e_ff ?_)
  refine e_ret0 ?_
  (refine Prm.ent ?_; repeat (first | exact Prm.refl _ | (apply Prm.take; repeat (first | exact Sel.here _ _ | apply Sel.there)) | refine Prm.drop ?_))
theorem audit_none1 (p : HpP) (S : CeS) : Ct Tryz.prog 95 [ptr p.h] (hp0 p S) (det (.bool false) (hp0 p S)) := by
  refine ct_intro Tryz.func95 rfl Tryz.ntmps95 Tryz.results95 fun R => e_nf ?_
  repeat (first | refine r_p ?_ | refine r_l ?_ | refine r_s ?_ | refine r_n fun _ => ?_ | refine r_end ?_ | refine e_r ?_ | refine e_j ?_ | refine e_true ?_ | refine e_false ?_ | refine r_tt ?_ | refine r_ff ?_ | refine e_tt ?_ | refine e_ff ?_)
  refine e_ret0 ?_
  (refine Prm.ent ?_; repeat (first | exact Prm.refl _ | (apply Prm.take; repeat (first | exact Sel.here _ _ | apply Sel.there)) | refine Prm.drop ?_))
abbrev its (n : Nat) : Value := .agg (List.replicate n (it 0)).toArray
theorem audit_Count0 : Ct Tryz.prog 22 [.pointer none] [] (det (.tuple #[its 7, it 1]) []) := by
  refine ct_intro Tryz.func22 rfl Tryz.ntmps22 Tryz.results22 fun R => e_nf ?_
  repeat (first | refine r_p ?_ | refine r_l ?_ | refine r_s ?_ | refine r_n fun _ => ?_ | refine r_end ?_ | refine e_r ?_ | refine e_d pl22 ?_ | refine e_j ?_ | refine e_true ?_ | refine e_false ?_ | refine r_tt ?_ | refine r_ff ?_ | refine e_tt ?_ | refine e_ff ?_)
  refine r_c audit_none0 ?_
  repeat (first | refine r_p ?_ | refine r_l ?_ | refine r_s ?_ | refine r_n fun _ => ?_ | refine r_end ?_ | refine e_r ?_ | refine e_d pl22 ?_ | refine e_j ?_ | refine e_true ?_ | refine e_false ?_ | refine r_tt ?_ | refine r_ff ?_ | refine e_tt ?_ | refine e_ff ?_)
  refine e_ret0 ?_
  (refine Prm.ent ?_; repeat (first | exact Prm.refl _ | (apply Prm.take; repeat (first | exact Sel.here _ _ | apply Sel.there)) | refine Prm.drop ?_))
theorem audit_CountN (b : Nat) : Ct Tryz.prog 22 [ptr b] [hpN b] (det (.tuple #[its 7, it 1]) [hpN b]) := by
  refine ct_intro Tryz.func22 rfl Tryz.ntmps22 Tryz.results22 fun R => e_nf ?_
  repeat (first | refine r_p ?_ | refine r_l ?_ | refine r_s ?_ | refine r_n fun _ => ?_ | refine r_end ?_ | refine e_r ?_ | refine e_d pl22 ?_ | refine e_j ?_ | refine e_true ?_ | refine e_false ?_ | refine r_tt ?_ | refine r_ff ?_ | refine e_tt ?_ | refine e_ff ?_)
  refine r_c (audit_noneN b) ?_
  repeat (first | refine r_p ?_ | refine r_l ?_ | refine r_s ?_ | refine r_n fun _ => ?_ | refine r_end ?_ | refine e_r ?_ | refine e_d pl22 ?_ | refine e_j ?_ | refine e_true ?_ | refine e_false ?_ | refine r_tt ?_ | refine r_ff ?_ | refine e_tt ?_ | refine e_ff ?_)
  refine e_ret0 ?_
  (refine Prm.ent ?_; repeat (first | exact Prm.refl _ | (apply Prm.take; repeat (first | exact Sel.here _ _ | apply Sel.there)) | refine Prm.drop ?_))
theorem audit_Of0 (r : Int) : Ct Tryz.prog 23 [.pointer none, it r] [] (det (.tuple #[its 6, it 1]) []) := by
  refine ct_intro Tryz.func23 rfl Tryz.ntmps23 Tryz.results23 fun R => e_nf ?_
  repeat (first | refine r_p ?_ | refine r_l ?_ | refine r_s ?_ | refine r_n fun _ => ?_ | refine r_end ?_ | refine e_r ?_ | refine e_d pl23 ?_ | refine e_j ?_ | refine e_true ?_ | refine e_false ?_ | refine r_tt ?_ | refine r_ff ?_ | refine e_tt ?_ | refine e_ff ?_)
  refine r_c audit_none0 ?_
  repeat (first | refine r_p ?_ | refine r_l ?_ | refine r_s ?_ | refine r_n fun _ => ?_ | refine r_end ?_ | refine e_r ?_ | refine e_d pl23 ?_ | refine e_j ?_ | refine e_true ?_ | refine e_false ?_ | refine r_tt ?_ | refine r_ff ?_ | refine e_tt ?_ | refine e_ff ?_)
  refine e_ret0 ?_
  (refine Prm.ent ?_; repeat (first | exact Prm.refl _ | (apply Prm.take; repeat (first | exact Sel.here _ _ | apply Sel.there)) | refine Prm.drop ?_))
theorem audit_OfN (b : Nat) (r : Int) : Ct Tryz.prog 23 [ptr b, it r] [hpN b] (det (.tuple #[its 6, it 1]) [hpN b]) := by
  refine ct_intro Tryz.func23 rfl Tryz.ntmps23 Tryz.results23 fun R => e_nf ?_
  repeat (first | refine r_p ?_ | refine r_l ?_ | refine r_s ?_ | refine r_n fun _ => ?_ | refine r_end ?_ | refine e_r ?_ | refine e_d pl23 ?_ | refine e_j ?_ | refine e_true ?_ | refine e_false ?_ | refine r_tt ?_ | refine r_ff ?_ | refine e_tt ?_ | refine e_ff ?_)
  refine r_c (audit_noneN b) ?_
  repeat (first | refine r_p ?_ | refine r_l ?_ | refine r_s ?_ | refine r_n fun _ => ?_ | refine r_end ?_ | refine e_r ?_ | refine e_d pl23 ?_ | refine e_j ?_ | refine e_true ?_ | refine e_false ?_ | refine r_tt ?_ | refine r_ff ?_ | refine e_tt ?_ | refine e_ff ?_)
  refine e_ret0 ?_
  (refine Prm.ent ?_; repeat (first | exact Prm.refl _ | (apply Prm.take; repeat (first | exact Sel.here _ _ | apply Sel.there)) | refine Prm.drop ?_))
theorem audit_Check0 : Ct Tryz.prog 24 [.pointer none] [] (det (.tuple #[.slice none 0 0, it 1]) []) := by
  refine ct_intro Tryz.func24 rfl Tryz.ntmps24 Tryz.results24 fun R => e_nf ?_
  repeat (first | refine r_p ?_ | refine r_l ?_ | refine r_s ?_ | refine r_n fun _ => ?_ | refine r_end ?_ | refine e_r ?_ | refine e_d pl24 ?_ | refine e_j ?_ | refine e_true ?_ | refine e_false ?_ | refine r_tt ?_ | refine r_ff ?_ | refine e_tt ?_ | refine e_ff ?_)
  refine r_c audit_none0 ?_
  repeat (first | refine r_p ?_ | refine r_l ?_ | refine r_s ?_ | refine r_n fun _ => ?_ | refine r_end ?_ | refine e_r ?_ | refine e_d pl24 ?_ | refine e_j ?_ | refine e_true ?_ | refine e_false ?_ | refine r_tt ?_ | refine r_ff ?_ | refine e_tt ?_ | refine e_ff ?_)
  refine e_ret0 ?_
  (refine Prm.ent ?_; repeat (first | exact Prm.refl _ | (apply Prm.take; repeat (first | exact Sel.here _ _ | apply Sel.there)) | refine Prm.drop ?_))
theorem audit_CheckN (b : Nat) : Ct Tryz.prog 24 [ptr b] [hpN b] (det (.tuple #[.slice none 0 0, it 1]) [hpN b]) := by
  refine ct_intro Tryz.func24 rfl Tryz.ntmps24 Tryz.results24 fun R => e_nf ?_
  repeat (first | refine r_p ?_ | refine r_l ?_ | refine r_s ?_ | refine r_n fun _ => ?_ | refine r_end ?_ | refine e_r ?_ | refine e_d pl24 ?_ | refine e_j ?_ | refine e_true ?_ | refine e_false ?_ | refine r_tt ?_ | refine r_ff ?_ | refine e_tt ?_ | refine e_ff ?_)
  refine r_c (audit_noneN b) ?_
  repeat (first | refine r_p ?_ | refine r_l ?_ | refine r_s ?_ | refine r_n fun _ => ?_ | refine r_end ?_ | refine e_r ?_ | refine e_d pl24 ?_ | refine e_j ?_ | refine e_true ?_ | refine e_false ?_ | refine r_tt ?_ | refine r_ff ?_ | refine e_tt ?_ | refine e_ff ?_)
  refine e_ret0 ?_
  (refine Prm.ent ?_; repeat (first | exact Prm.refl _ | (apply Prm.take; repeat (first | exact Sel.here _ _ | apply Sel.there)) | refine Prm.drop ?_))
theorem usedL_new (n : Nat) : usedL (List.replicate n slot0) = [] := by
  unfold usedL
  rw [List.filterMap_eq_nil_iff]
  intro i _
  have : atT (List.replicate n slot0) (i : Int) = none := by
    cases h : atT (List.replicate n slot0) (i : Int) with
    | none => rfl
    | some s =>
      obtain ⟨k, _, hs, hu⟩ := atT_some h
      have := List.mem_of_getElem? hs
      rw [(List.mem_replicate.1 this).2] at hu; cases hu
  rw [pickT, this]; rfl
def tot0 : Value := .agg #[it 4, it 4, it 6, it 0, it 0, it 0, it 0]
abbrev hpx (p : HpP) : List SP := hp0 p (ce0 4 8 6)
theorem audit_Count1 (p : HpP) : Ct Tryz.prog 22 [ptr p.h] (hpx p) (det (.tuple #[tot0, it 0]) (hpx p)) := by
  refine ct_intro Tryz.func22 rfl Tryz.ntmps22 Tryz.results22 fun R => e_nf ?_
  repeat (first | refine r_p ?_ | refine r_l ?_ | refine r_s ?_ | refine r_n fun _ => ?_ | refine r_end ?_ | refine e_r ?_ | refine e_d pl22 ?_ | refine e_j ?_ | refine e_true ?_ | refine e_false ?_ | refine r_tt ?_ | refine r_ff ?_ | refine e_tt ?_ | refine e_ff ?_)
  refine r_c (audit_none1 p _) ?_
  repeat (first | refine r_p ?_ | refine r_l ?_ | refine r_s ?_ | refine r_n fun _ => ?_ | refine r_end ?_ | refine e_r ?_ | refine e_d pl22 ?_ | refine e_j ?_ | refine e_true ?_ | refine e_false ?_ | refine r_tt ?_ | refine r_ff ?_ | refine e_tt ?_ | refine e_ff ?_)
  refine r_o (by repeat (first | exact Sel.here _ _ | apply Sel.there)) fun _ hok => ?_
  repeat (first | refine r_p ?_ | refine r_l ?_ | refine r_s ?_ | refine r_n fun _ => ?_ | refine r_end ?_ | refine e_r ?_ | refine e_d pl22 ?_ | refine e_j ?_ | refine e_true ?_ | refine e_false ?_ | refine r_tt ?_ | refine r_ff ?_ | refine e_tt ?_ | refine e_ff ?_)
  rename_i b1 b2 _
  refine r_post (fun b => ⟨86, [(4, ptr b), (2, ptr b2), (1, ptr b1), (3, it 0)], []⟩) (fun b => cl b [it 4, it 4, it 0, it 0, it 0, it 0, it 0] 57 :: cl b1 [ptr p.h] 49 :: cl b2 [it 0, it 0, it 0, it 0, it 0, it 0, it 0] 57 :: cl p.h [ptr p.ce.c, it 0, .pointer none, .pointer none] 54 :: (ceL p.ce (ce0 4 8 6) ++ R)) ?_ fun b => ?_
  · repeat' (first | refine r_p ?_ | refine r_l ?_ | refine r_s ?_ | refine r_n fun _ => ?_ | refine r_np fun _ => ?_ | refine r_or2 ?_ ?_ | refine r_cp (store_Chunks p.ce.st (st0 4 8)) ?_ | refine r_cp (store_Free p.ce.st (st0 4 8)) ?_ | refine r_cp (table_Used p.ce.tb p.ce.tm (List.replicate 6 slot0)) ?_ | refine r_cp (table_Retired p.ce.tb p.ce.tm (List.replicate 6 slot0)) ?_ | refine r_cp (tree_Len p.ce.tr tr0) ?_ | refine r_c (tree_Len p.ce.tr tr0) ?_)
    all_goals
      refine r_fin _ (by repeat (first | exact le_nil | refine le_cons ?_)) ?_
      (refine Prm.ent ?_; repeat (first | exact Prm.refl _ | (apply Prm.take; repeat (first | exact Sel.here _ _ | apply Sel.there)) | refine Prm.drop ?_))
  simp only [ceL, List.cons_append, List.nil_append]
  repeat (first | refine r_p ?_ | refine r_l ?_ | refine r_s ?_ | refine r_n fun _ => ?_ | refine r_end ?_ | refine e_r ?_ | refine e_d pl22 ?_ | refine e_j ?_ | refine e_true ?_ | refine e_false ?_ | refine r_tt ?_ | refine r_ff ?_ | refine e_tt ?_ | refine e_ff ?_)
  refine r_cp (table_Left p.ce.tb p.ce.tm (List.replicate 6 slot0)) ?_
  rw [show (List.replicate 6 slot0).length - usedN (List.replicate 6 slot0) - retired (List.replicate 6 slot0) = 6 from rfl]
  repeat (first | refine r_p ?_ | refine r_l ?_ | refine r_s ?_ | refine r_n fun _ => ?_ | refine r_end ?_ | refine e_r ?_ | refine e_d pl22 ?_ | refine e_j ?_ | refine e_true ?_ | refine e_false ?_ | refine r_tt ?_ | refine r_ff ?_ | refine e_tt ?_ | refine e_ff ?_)
  refine r_x (table_All p.ce.tb) fun c2 _ => ?_
  repeat (first | refine r_p ?_ | refine r_l ?_ | refine r_s ?_ | refine r_n fun _ => ?_ | refine r_end ?_ | refine e_r ?_ | refine e_d pl22 ?_ | refine e_j ?_ | refine e_true ?_ | refine e_false ?_ | refine r_tt ?_ | refine r_ff ?_ | refine e_tt ?_ | refine e_ff ?_)
  refine e_rf0 fun l' D LP hLP => ?_
  refine rf_mk _ (table_All1_seq p.ce.tb p.ce.tm c2 (List.replicate 6 slot0) _ (fun _ => LP .ready none) (fun _ => pu False) ?_) (Frm.ent (by repeat (first | exact Frm.nil _ | apply Frm.cons | exact Sel.here _ _ | apply Sel.there))) ?_
  · rw [usedL_new]
    exact ⟨rfl, fun done x rest hx => by simp at hx⟩
  · rintro v0 L0 ⟨_, rfl | ⟨done, i, rest, hx, rfl⟩⟩
    · simp only [List.cons_append, List.nil_append]
      refine aft_end .ready (by repeat (first | exact Sel.here _ _ | apply Sel.there)) ?_
      repeat (first | refine r_p ?_ | refine r_l ?_ | refine r_s ?_ | refine r_n fun _ => ?_ | refine r_end ?_ | refine e_r ?_ | refine e_d pl22 ?_ | refine e_j ?_ | refine e_true ?_ | refine e_false ?_ | refine r_tt ?_ | refine r_ff ?_ | refine e_tt ?_ | refine e_ff ?_)
      refine e_mark (by repeat (first | exact Sel.here _ _ | apply Sel.there)) ?_
      refine e_ret0 ?_
      refine Ent.trans (B := ceR p.ce (ce0 4 8 6) :: cl p.h [ptr p.ce.c, it 0, .pointer none, .pointer none] 54 :: R) ?_ (by (refine Prm.ent ?_; repeat (first | exact Prm.refl _ | (apply Prm.take; repeat (first | exact Sel.here _ _ | apply Sel.there)) | refine Prm.drop ?_)))
      refine n_s () hok ?_
      (refine Prm.ent ?_; repeat (first | exact Prm.refl _ | (apply Prm.take; repeat (first | exact Sel.here _ _ | apply Sel.there)) | refine Prm.drop ?_))
    · rw [usedL_new] at hx; simp at hx
theorem own_new (c w : Nat) (i : Int) : ownOf (st0 c w) i = 0 := by
  unfold ownOf st0
  split
  · simp only [List.getD_eq_getElem?_getD, List.getElem?_replicate]
    split <;> rfl
  · rfl
theorem audit_Check1 (p : HpP) : Ct Tryz.prog 24 [ptr p.h] (hpx p) (det (.tuple #[.slice none 0 0, it 0]) (hpx p)) := by
  refine ct_intro Tryz.func24 rfl Tryz.ntmps24 Tryz.results24 fun R => e_nf ?_
  repeat (first | refine r_p ?_ | refine r_l ?_ | refine r_s ?_ | refine r_n fun _ => ?_ | refine r_end ?_ | refine e_r ?_ | refine e_d pl24 ?_ | refine e_j ?_ | refine e_true ?_ | refine e_false ?_ | refine r_tt ?_ | refine r_ff ?_ | refine e_tt ?_ | refine e_ff ?_)
  refine r_c (audit_none1 p _) ?_
  repeat (first | refine r_p ?_ | refine r_l ?_ | refine r_s ?_ | refine r_n fun _ => ?_ | refine r_end ?_ | refine e_r ?_ | refine e_d pl24 ?_ | refine e_j ?_ | refine e_true ?_ | refine e_false ?_ | refine r_tt ?_ | refine r_ff ?_ | refine e_tt ?_ | refine e_ff ?_)
  refine r_o (by repeat (first | exact Sel.here _ _ | apply Sel.there)) fun _ hok => ?_
  repeat (first | refine r_p ?_ | refine r_l ?_ | refine r_s ?_ | refine r_n fun _ => ?_ | refine r_end ?_ | refine e_r ?_ | refine e_d pl24 ?_ | refine e_j ?_ | refine e_true ?_ | refine e_false ?_ | refine r_tt ?_ | refine r_ff ?_ | refine e_tt ?_ | refine e_ff ?_)
  refine r_x (table_All p.ce.tb) fun c2 _ => ?_
  repeat (first | refine r_p ?_ | refine r_l ?_ | refine r_s ?_ | refine r_n fun _ => ?_ | refine r_end ?_ | refine e_r ?_ | refine e_d pl24 ?_ | refine e_j ?_ | refine e_true ?_ | refine e_false ?_ | refine r_tt ?_ | refine r_ff ?_ | refine e_tt ?_ | refine e_ff ?_)
  refine e_rf0 fun l' D LP hLP => ?_
  refine rf_mk _ (table_All1_seq p.ce.tb p.ce.tm c2 (List.replicate 6 slot0) _ (fun _ => LP .ready none) (fun _ => pu False) ?_) (Frm.ent (by repeat (first | exact Frm.nil _ | apply Frm.cons | exact Sel.here _ _ | apply Sel.there))) ?_
  · rw [usedL_new]
    exact ⟨rfl, fun done x rest hx => by simp at hx⟩
  · rintro v0 L0 ⟨_, rfl | ⟨done, i, rest, hx, rfl⟩⟩
    · simp only [List.cons_append, List.nil_append]
      refine aft_end .ready (by repeat (first | exact Sel.here _ _ | apply Sel.there)) ?_
      repeat (first | refine r_p ?_ | refine r_l ?_ | refine r_s ?_ | refine r_n fun _ => ?_ | refine r_end ?_ | refine e_r ?_ | refine e_d pl24 ?_ | refine e_j ?_ | refine e_true ?_ | refine e_false ?_ | refine r_tt ?_ | refine r_ff ?_ | refine e_tt ?_ | refine e_ff ?_)
      refine r_mm it it fun bh => ?_
      repeat (first | refine r_p ?_ | refine r_l ?_ | refine r_s ?_ | refine r_n fun _ => ?_ | refine r_end ?_ | refine e_r ?_ | refine e_d pl24 ?_ | refine e_j ?_ | refine e_true ?_ | refine e_false ?_ | refine r_tt ?_ | refine r_ff ?_ | refine e_tt ?_ | refine e_ff ?_)
      refine r_rg (b := p.ce.mi) (κ := it) (ν := optr) (ptrs (ce0 4 8 6).mine p.ce.mip) (by repeat (first | exact Sel.here _ _ | apply Sel.there)) fun bi => ?_
      repeat (first | refine r_p ?_ | refine r_l ?_ | refine r_s ?_ | refine r_n fun _ => ?_ | refine r_end ?_ | refine e_r ?_ | refine e_d pl24 ?_ | refine e_j ?_ | refine e_true ?_ | refine e_false ?_ | refine r_tt ?_ | refine r_ff ?_ | refine e_tt ?_ | refine e_ff ?_)
      rename_i b1 b4 _ _ _
      let S := ce0 4 8 6
      refine e_loop (fun _ : Unit => True) (fun _ => ⟨149, [(45, ptr bi), (1, ptr b1), (4, ptr b4), (7, .map (some bh))], [mk D]⟩) (fun _ => mpi bi p.ce.mi it optr (ptrs (ce0 4 8 6).mine p.ce.mip) [] :: mp bh it it ([] : List (Int × Int)) :: df D :: cl b4 [.slice none 0 0] 65 :: cl b1 [ptr p.h] 49 :: cl p.h [ptr p.ce.c, it 0, .pointer none, .pointer none] 54 :: cl p.ce.c [ptr p.ce.st, ptr p.ce.bk, ptr p.ce.im, ptr p.ce.tb, ptr p.ce.tr, ptr p.ce.rm, .map (some p.ce.sp), .map (some p.ce.mi)] 112 ::
        stR p.ce.st S.st :: bkR p.ce.bk S.bk :: imR p.ce.im p.ce.st p.ce.bk :: tbR p.ce.tb p.ce.tm S.tb :: treeR p.ce.tr S.tr :: remR p.ce.rm S.rm :: mp p.ce.sp it optr (ptrs S.spaces p.ce.spp) :: grp (List.zipWith (fun x q => spR q p.ce.st x.2) S.spaces p.ce.spp) :: grp (List.zipWith (fun x q => bgR q x.2) S.mine p.ce.mip) :: R) (fun _ => 0) () trivial (by repeat (first | exact le_nil | refine le_cons ?_)) (by (refine Prm.ent ?_; repeat (first | exact Prm.refl _ | (apply Prm.take; repeat (first | exact Sel.here _ _ | apply Sel.there)) | refine Prm.drop ?_))) fun _ _ => ?_
      repeat (first | refine r_p ?_ | refine r_l ?_ | refine r_s ?_ | refine r_n fun _ => ?_ | refine r_end ?_ | refine e_r ?_ | refine e_d pl24 ?_ | refine e_j ?_ | refine e_true ?_ | refine e_false ?_ | refine r_tt ?_ | refine r_ff ?_ | refine e_tt ?_ | refine e_ff ?_)
      refine r_nx (by repeat (first | exact Sel.here _ _ | apply Sel.there)) (fun _ => ?_) (fun i kk v hi _ => by simp [ce0, ptrs] at hi)
      repeat (first | refine r_p ?_ | refine r_l ?_ | refine r_s ?_ | refine r_n fun _ => ?_ | refine r_end ?_ | refine e_r ?_ | refine e_d pl24 ?_ | refine e_j ?_ | refine e_true ?_ | refine e_false ?_ | refine r_tt ?_ | refine r_ff ?_ | refine e_tt ?_ | refine e_ff ?_)
      refine r_c (store_Chunks p.ce.st S.st) ?_
      repeat (first | refine r_p ?_ | refine r_l ?_ | refine r_s ?_ | refine r_n fun _ => ?_ | refine r_end ?_ | refine e_r ?_ | refine e_d pl24 ?_ | refine e_j ?_ | refine e_true ?_ | refine e_false ?_ | refine r_tt ?_ | refine r_ff ?_ | refine e_tt ?_ | refine e_ff ?_)
      refine e_loop (fun i : Nat => i ≤ 4) (fun i => ⟨149, [(120, it i), (119, it 4), (1, ptr b1), (4, ptr b4), (7, .map (some bh))], [mk D]⟩) (fun _ => mpi bi p.ce.mi it optr (ptrs (ce0 4 8 6).mine p.ce.mip) [] :: mp bh it it ([] : List (Int × Int)) :: df D :: cl b4 [.slice none 0 0] 65 :: cl b1 [ptr p.h] 49 :: cl p.h [ptr p.ce.c, it 0, .pointer none, .pointer none] 54 :: cl p.ce.c [ptr p.ce.st, ptr p.ce.bk, ptr p.ce.im, ptr p.ce.tb, ptr p.ce.tr, ptr p.ce.rm, .map (some p.ce.sp), .map (some p.ce.mi)] 112 ::
        stR p.ce.st S.st :: bkR p.ce.bk S.bk :: imR p.ce.im p.ce.st p.ce.bk :: tbR p.ce.tb p.ce.tm S.tb :: treeR p.ce.tr S.tr :: remR p.ce.rm S.rm :: mp p.ce.sp it optr (ptrs S.spaces p.ce.spp) :: grp (List.zipWith (fun x q => spR q p.ce.st x.2) S.spaces p.ce.spp) :: grp (List.zipWith (fun x q => bgR q x.2) S.mine p.ce.mip) :: R) (fun i => 4 - i) 0 (Nat.zero_le _) (by repeat (first | exact le_nil | refine le_cons ?_)) (by (refine Prm.ent ?_; repeat (first | exact Prm.refl _ | (apply Prm.take; repeat (first | exact Sel.here _ _ | apply Sel.there)) | refine Prm.drop ?_))) fun i hi => ?_
      repeat (first | refine r_p ?_ | refine r_l ?_ | refine r_s ?_ | refine r_n fun _ => ?_ | refine r_end ?_ | refine e_r ?_ | refine e_d pl24 ?_ | refine e_j ?_ | refine e_true ?_ | refine e_false ?_ | refine r_tt ?_ | refine r_ff ?_ | refine e_tt ?_ | refine e_ff ?_)
      refine e_if (fun h => ?_) (fun h => ?_)
      · repeat (first | refine r_p ?_ | refine r_l ?_ | refine r_s ?_ | refine r_n fun _ => ?_ | refine r_end ?_ | refine e_r ?_ | refine e_d pl24 ?_ | refine e_j ?_ | refine e_true ?_ | refine e_false ?_ | refine r_tt ?_ | refine r_ff ?_ | refine e_tt ?_ | refine e_ff ?_)
        refine r_c (store_Owner p.ce.st i S.st) ?_
        rw [show ownOf S.st i = 0 from own_new 4 8 i]
        repeat (first | refine r_p ?_ | refine r_l ?_ | refine r_s ?_ | refine r_n fun _ => ?_ | refine r_end ?_ | refine e_r ?_ | refine e_d pl24 ?_ | refine e_j ?_ | refine e_true ?_ | refine e_false ?_ | refine r_tt ?_ | refine r_ff ?_ | refine e_tt ?_ | refine e_ff ?_)
        refine e_next (i + 1) (by omega) (by omega) (by repeat (first | exact le_nil | refine le_cons ?_)) ?_
        (refine Prm.ent ?_; repeat (first | exact Prm.refl _ | (apply Prm.take; repeat (first | exact Sel.here _ _ | apply Sel.there)) | refine Prm.drop ?_))
      · repeat (first | refine r_p ?_ | refine r_l ?_ | refine r_s ?_ | refine r_n fun _ => ?_ | refine r_end ?_ | refine e_r ?_ | refine e_d pl24 ?_ | refine e_j ?_ | refine e_true ?_ | refine e_false ?_ | refine r_tt ?_ | refine r_ff ?_ | refine e_tt ?_ | refine e_ff ?_)
        refine r_c (flaw_Sort0 none _) ?_
        repeat (first | refine r_p ?_ | refine r_l ?_ | refine r_s ?_ | refine r_n fun _ => ?_ | refine r_end ?_ | refine e_r ?_ | refine e_d pl24 ?_ | refine e_j ?_ | refine e_true ?_ | refine e_false ?_ | refine r_tt ?_ | refine r_ff ?_ | refine e_tt ?_ | refine e_ff ?_)
        refine r_c (flaw_Compact0 none) ?_
        repeat (first | refine r_p ?_ | refine r_l ?_ | refine r_s ?_ | refine r_n fun _ => ?_ | refine r_end ?_ | refine e_r ?_ | refine e_d pl24 ?_ | refine e_j ?_ | refine e_true ?_ | refine e_false ?_ | refine r_tt ?_ | refine r_ff ?_ | refine e_tt ?_ | refine e_ff ?_)
        refine e_mark (by repeat (first | exact Sel.here _ _ | apply Sel.there)) ?_
        refine e_ret0 ?_
        refine Ent.trans (B := ceR p.ce (ce0 4 8 6) :: cl p.h [ptr p.ce.c, it 0, .pointer none, .pointer none] 54 :: R) ?_ (by (refine Prm.ent ?_; repeat (first | exact Prm.refl _ | (apply Prm.take; repeat (first | exact Sel.here _ _ | apply Sel.there)) | refine Prm.drop ?_)))
        refine Ent.trans (Ent.trans (by (refine Prm.ent ?_; repeat (first | exact Prm.refl _ | (apply Prm.take; repeat (first | exact Sel.here _ _ | apply Sel.there)) | refine Prm.drop ?_))) mpi_mp) ?_
        refine n_s () hok ?_
        (refine Prm.ent ?_; repeat (first | exact Prm.refl _ | (apply Prm.take; repeat (first | exact Sel.here _ _ | apply Sel.there)) | refine Prm.drop ?_))
    · rw [usedL_new] at hx; simp at hx
