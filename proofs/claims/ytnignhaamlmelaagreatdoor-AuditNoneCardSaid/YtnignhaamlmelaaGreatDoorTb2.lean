import Derived.Test.YtnignhaamlmelaaGreatDoorTb
namespace Go.Proofs
open Go Go.Sl
set_option maxRecDepth 4000
attribute [local irreducible] Ex Run Ct Kt.body Sat Ent
def atT (l : List SlS) (i : Int) : Option SlS := if 0 ≤ i then match l[i.toNat]? with
    | some s => if s.used = true then some s else none
    | none => none
  else none
theorem atT_nat (l : List SlS) (i : Nat) (s : SlS) (h : l[i]? = some s) (hu : s.used = true) : atT l (i : Int) = some s := by simp [atT, h, hu]
theorem atT_some {l : List SlS} {i : Int} {s : SlS} (h : atT l i = some s) : ∃ k : Nat, i = (k : Int) ∧ l[k]? = some s ∧ s.used = true := by
  unfold atT at h
  split at h
  · rename_i h0
    split at h
    · rename_i s' hs
      split at h
      · cases h; exact ⟨i.toNat, by omega, hs, by assumption⟩
      · cases h
    · cases h
  · cases h
def atV (i : Int) : Option SlS → Value
  | some s => .tuple #[it2 (i, s.gen), .bool true]
  | none => .tuple #[it2 (0, 0), .bool false]
theorem table_At (b bm : Nat) (i : Int) (l : List SlS) : Ct Tryz.prog 102 [ptr b, it i] [tbR b bm l] (det (atV i (atT l i)) [tbR b bm l]) := by
  refine ct_intro Tryz.func102 rfl Tryz.ntmps102 Tryz.results102 fun R => e_nf ?_
  refine e_o (by repeat (first | exact Sel.here _ _ | apply Sel.there)) fun g hok => ?_
  have := hok.len2
  repeat (first | refine r_p ?_ | refine r_l ?_ | refine r_s ?_ | refine r_n fun _ => ?_ | refine r_end ?_ | refine e_r ?_ | refine e_j ?_ | refine e_true ?_ | refine e_false ?_ | refine r_tt ?_ | refine r_ff ?_ | refine e_tt ?_ | refine e_ff ?_)
  by_cases h0 : i < 0
  · repeat (first | refine r_p ?_ | refine r_l ?_ | refine r_s ?_ | refine r_n fun _ => ?_ | refine r_end ?_ | refine e_r ?_ | refine e_j ?_ | refine e_true ?_ | refine e_false ?_ | refine r_tt ?_ | refine r_ff ?_ | refine e_tt ?_ | refine e_ff ?_)
    have e : atT l i = none := by simp [atT, show ¬ 0 ≤ i by omega]
    rw [e]
    refine e_ret0 ?_
    refine n_s g hok ?_
    (refine Prm.ent ?_; repeat (first | exact Prm.refl _ | (apply Prm.take; repeat (first | exact Sel.here _ _ | apply Sel.there)) | refine Prm.drop ?_))
  obtain ⟨k, rfl⟩ := Int.eq_ofNat_of_zero_le (show 0 ≤ i by omega)
  repeat (first | refine r_p ?_ | refine r_l ?_ | refine r_s ?_ | refine r_n fun _ => ?_ | refine r_end ?_ | refine e_r ?_ | refine e_j ?_ | refine e_true ?_ | refine e_false ?_ | refine r_tt ?_ | refine r_ff ?_ | refine e_tt ?_ | refine e_ff ?_)
  by_cases hk : l.length ≤ k
  · repeat (first | refine r_p ?_ | refine r_l ?_ | refine r_s ?_ | refine r_n fun _ => ?_ | refine r_end ?_ | refine e_r ?_ | refine e_j ?_ | refine e_true ?_ | refine e_false ?_ | refine r_tt ?_ | refine r_ff ?_ | refine e_tt ?_ | refine e_ff ?_)
    have e : atT l (k : Int) = none := by simp [atT, List.getElem?_eq_none hk]
    rw [e]
    refine e_ret0 ?_
    refine n_s g hok ?_
    (refine Prm.ent ?_; repeat (first | exact Prm.refl _ | (apply Prm.take; repeat (first | exact Sel.here _ _ | apply Sel.there)) | refine Prm.drop ?_))
  have hlt : k < l.length := by omega
  have hs : l[k]? = some l[k] := List.getElem?_eq_getElem hlt
  repeat (first | refine r_p ?_ | refine r_l ?_ | refine r_s ?_ | refine r_n fun _ => ?_ | refine r_end ?_ | refine e_r ?_ | refine e_j ?_ | refine e_true ?_ | refine e_false ?_ | refine r_tt ?_ | refine r_ff ?_ | refine e_tt ?_ | refine e_ff ?_)
  refine r_li (v := .bool l[k].used) ?_ ?_
  · exact flat_get SlS.cells 6 sl6 l k 1 _ _ hs rfl
  repeat (first | refine r_p ?_ | refine r_l ?_ | refine r_s ?_ | refine r_n fun _ => ?_ | refine r_end ?_ | refine e_r ?_ | refine e_j ?_ | refine e_true ?_ | refine e_false ?_ | refine r_tt ?_ | refine r_ff ?_ | refine e_tt ?_ | refine e_ff ?_)
  cases hu : l[k].used with
  | false =>
    repeat (first | refine r_p ?_ | refine r_l ?_ | refine r_s ?_ | refine r_n fun _ => ?_ | refine r_end ?_ | refine e_r ?_ | refine e_j ?_ | refine e_true ?_ | refine e_false ?_ | refine r_tt ?_ | refine r_ff ?_ | refine e_tt ?_ | refine e_ff ?_)
    have e : atT l (k : Int) = none := by simp [atT, hlt, hu]
    rw [e]
    refine e_ret0 ?_
    refine n_s g hok ?_
    (refine Prm.ent ?_; repeat (first | exact Prm.refl _ | (apply Prm.take; repeat (first | exact Sel.here _ _ | apply Sel.there)) | refine Prm.drop ?_))
  | true =>
    repeat (first | refine r_p ?_ | refine r_l ?_ | refine r_s ?_ | refine r_n fun _ => ?_ | refine r_end ?_ | refine e_r ?_ | refine e_j ?_ | refine e_true ?_ | refine e_false ?_ | refine r_tt ?_ | refine r_ff ?_ | refine e_tt ?_ | refine e_ff ?_)
    refine r_li (v := it l[k].gen) ?_ ?_
    · exact flat_get SlS.cells 6 sl6 l k 0 _ _ hs rfl
    repeat (first | refine r_p ?_ | refine r_l ?_ | refine r_s ?_ | refine r_n fun _ => ?_ | refine r_end ?_ | refine e_r ?_ | refine e_j ?_ | refine e_true ?_ | refine e_false ?_ | refine r_tt ?_ | refine r_ff ?_ | refine e_tt ?_ | refine e_ff ?_)
    rw [atT_nat l k _ hs hu]
    refine e_ret0 ?_
    refine n_s g hok ?_
    (refine Prm.ent ?_; repeat (first | exact Prm.refl _ | (apply Prm.take; repeat (first | exact Sel.here _ _ | apply Sel.there)) | refine Prm.drop ?_))

/-- the used slots, in order -/
def pickT (l : List SlS) (i : Nat) : Option (Nat × SlS) := (atT l (i : Int)).map fun s => (i, s)
def usedL (l : List SlS) : List (Nat × SlS) := (List.range l.length).filterMap (pickT l)
abbrev tokE (x : Nat × SlS) : List Value := [it2 ((x.1 : Int), (x.2.gen : Int)), enV x.2.e]
theorem pickT_taken {l : List SlS} {i : Nat} {x : Nat × SlS} (h : pickT l i = some x) : (l.map SlS.taken).getD i false = true := by
  unfold pickT at h
  cases ha : atT l (i : Int) with
  | none => rw [ha] at h; cases h
  | some s =>
    obtain ⟨k, hk, hs, hu⟩ := atT_some ha
    have : k = i := by omega
    subst this
    simp [hs, SlS.taken, hu]
theorem usedL_ons (l : List SlS) : (ons (l.map SlS.taken)).filterMap (pickT l) = usedL l := by
  unfold ons onsTo usedL
  rw [List.filterMap_filter, List.length_map]
  congr 1
  funext i
  cases h : (l.map SlS.taken).getD i false with
  | true => simp
  | false =>
    cases hp : pickT l i with
    | none => simp
    | some x => rw [pickT_taken hp] at h; cases h

theorem table_All1 (b bm c : Nat) (l : List SlS) (fv : Value) (J X : List (Nat × SlS) → SP) (hy : YieldOk Tryz.prog fv [tbR b bm l] tokE (usedL l) J X) :
    Ct Tryz.prog 191 [fv, ptr c] [J [], cl c [ptr b] 106, tbR b bm l] (SeqEnd [cl c [ptr b] 106, tbR b bm l] (usedL l) J X) := by
  have hfv := hy.1
  refine ct_intro Tryz.func191 rfl Tryz.ntmps191 Tryz.results191 fun R => e_nf ?_
  repeat (first | refine r_p ?_ | refine r_l ?_ | refine r_s ?_ | refine r_n fun _ => ?_ | refine r_end ?_ | refine e_r ?_ | refine e_d pl191 ?_ | refine e_j ?_ | refine e_true ?_ | refine e_false ?_ | refine r_tt ?_ | refine r_ff ?_ | refine e_tt ?_ | refine e_ff ?_)
  refine r_bv hfv fun bx => ?_
  repeat (first | refine r_p ?_ | refine r_l ?_ | refine r_s ?_ | refine r_n fun _ => ?_ | refine r_end ?_ | refine e_r ?_ | refine e_d pl191 ?_ | refine e_j ?_ | refine e_true ?_ | refine e_false ?_ | refine r_tt ?_ | refine r_ff ?_ | refine e_tt ?_ | refine e_ff ?_)
  refine r_o (by repeat (first | exact Sel.here _ _ | apply Sel.there)) fun g hok => ?_
  have hlen := hok.len2
  repeat (first | refine r_p ?_ | refine r_l ?_ | refine r_s ?_ | refine r_n fun _ => ?_ | refine r_end ?_ | refine e_r ?_ | refine e_d pl191 ?_ | refine e_j ?_ | refine e_true ?_ | refine e_false ?_ | refine r_tt ?_ | refine r_ff ?_ | refine e_tt ?_ | refine e_ff ?_)
  refine r_x (bitmap_All bm) fun c2 _ => ?_
  repeat (first | refine r_p ?_ | refine r_l ?_ | refine r_s ?_ | refine r_n fun _ => ?_ | refine r_end ?_ | refine e_r ?_ | refine e_d pl191 ?_ | refine e_j ?_ | refine e_true ?_ | refine e_false ?_ | refine r_tt ?_ | refine r_ff ?_ | refine e_tt ?_ | refine e_ff ?_)
  refine e_rf0 fun l' D LP hLP => ?_
  refine rf_mk (df D :: R) (bitmap_All1_seq bm c2 (l.map SlS.taken) _
    (fun done => rep (fun _ : Nat => TbOk l) fun g => [LP .ready none, cl bx [fv] 294, cl c [ptr b] 106, J (done.filterMap (pickT l)), cl b [.slice (some ⟨g, 0, none⟩) l.length l.length, ptr bm, it (retired l)] 262, cl g (cells6 l) 296])
    (fun done => rep (fun _ : Nat => TbOk l ∧ ∃ d i x, done = d ++ [i] ∧ pickT l i = some x) fun g => [LP .done (some .ret), cl bx [fv] 294, cl c [ptr b] 106, X (done.filterMap (pickT l)), cl b [.slice (some ⟨g, 0, none⟩) l.length l.length, ptr bm, it (retired l)] 262, cl g (cells6 l) 296]) ?_) ?_ ?_
  · refine ⟨rfl, fun done i rest hx => ?_⟩
    refine Cv.rep fun g hok => ?_
    refine cv_yield hLP fun R => ?_
    simp only [List.append_eq, List.cons_append, List.nil_append, List.append_assoc]
    repeat (first | refine r_p ?_ | refine r_l ?_ | refine r_s ?_ | refine r_n fun _ => ?_ | refine r_end ?_ | refine e_r ?_ | refine e_d pl191 ?_ | refine e_j ?_ | refine e_true ?_ | refine e_false ?_ | refine r_tt ?_ | refine r_ff ?_ | refine e_tt ?_ | refine e_ff ?_)
    refine e_begin hLP (by repeat (first | exact Sel.here _ _ | apply Sel.there)) ?_
    refine Ex.ent (H' := tbR b bm l :: LP .busy none :: cl bx [fv] 294 :: cl c [ptr b] 106 :: J (done.filterMap (pickT l)) :: R) ?_ ?_
    rotate_left
    · refine n_s g hok ?_
      (refine Prm.ent ?_; repeat (first | exact Prm.refl _ | (apply Prm.take; repeat (first | exact Sel.here _ _ | apply Sel.there)) | refine Prm.drop ?_))
    repeat (first | refine r_p ?_ | refine r_l ?_ | refine r_s ?_ | refine r_n fun _ => ?_ | refine r_end ?_ | refine e_r ?_ | refine e_d pl191 ?_ | refine e_j ?_ | refine e_true ?_ | refine e_false ?_ | refine r_tt ?_ | refine r_ff ?_ | refine e_tt ?_ | refine e_ff ?_)
    refine r_c (table_At b bm i l) ?_
    have hfm : (done ++ [i]).filterMap (pickT l) = done.filterMap (pickT l) ++ (pickT l i).toList := by
      rw [List.filterMap_append]; congr 1
    cases ha : atT l (i : Int) with
    | none =>
      simp only [atV]
      repeat (first | refine r_p ?_ | refine r_l ?_ | refine r_s ?_ | refine r_n fun _ => ?_ | refine r_end ?_ | refine e_r ?_ | refine e_d pl191 ?_ | refine e_j ?_ | refine e_true ?_ | refine e_false ?_ | refine r_tt ?_ | refine r_ff ?_ | refine e_tt ?_ | refine e_ff ?_)
      refine e_o (by repeat (first | exact Sel.here _ _ | apply Sel.there)) fun g2 hok2 => ?_
      refine e_rnext hLP (by repeat (first | exact Sel.here _ _ | apply Sel.there)) ⟨_, .inl ⟨rfl, rfl⟩, ?_⟩
      rw [hfm, pickT, ha]
      simp only [Option.map_none, Option.toList, List.append_nil]
      refine n_s g2 hok2 ?_
      (refine Prm.ent ?_; repeat (first | exact Prm.refl _ | (apply Prm.take; repeat (first | exact Sel.here _ _ | apply Sel.there)) | refine Prm.drop ?_))
    | some s =>
      simp only [atV]
      repeat (first | refine r_p ?_ | refine r_l ?_ | refine r_s ?_ | refine r_n fun _ => ?_ | refine r_end ?_ | refine e_r ?_ | refine e_d pl191 ?_ | refine e_j ?_ | refine e_true ?_ | refine e_false ?_ | refine r_tt ?_ | refine r_ff ?_ | refine e_tt ?_ | refine e_ff ?_)
      refine r_o (by repeat (first | exact Sel.here _ _ | apply Sel.there)) fun g2 hok2 => ?_
      obtain ⟨k, hk, hs, hu⟩ := atT_some ha
      have : k = i := by omega
      subst this
      have hlt := (List.getElem?_eq_some_iff.1 hs).1
      repeat (first | refine r_p ?_ | refine r_l ?_ | refine r_s ?_ | refine r_n fun _ => ?_ | refine r_end ?_ | refine e_r ?_ | refine e_d pl191 ?_ | refine e_j ?_ | refine e_true ?_ | refine e_false ?_ | refine r_tt ?_ | refine r_ff ?_ | refine e_tt ?_ | refine e_ff ?_)
      refine r_lj (vs := s.e.cells) ?_ ?_
      · exact flat_sub SlS.cells 6 sl6 l k 2 4 s _ hs rfl
      have hp : pickT l k = some (k, s) := by rw [pickT, ha]; rfl
      have hsp : usedL l = done.filterMap (pickT l) ++ (k, s) :: rest.filterMap (pickT l) := by
        rw [← usedL_ons, hx, List.filterMap_append, List.filterMap_cons, hp]
      refine Run.ent (H' := tbR b bm l :: LP .busy none :: cl bx [fv] 294 :: cl c [ptr b] 106 :: J (done.filterMap (pickT l)) :: R) ?_ ?_
      rotate_left
      · refine n_s g2 hok2 ?_
        (refine Prm.ent ?_; repeat (first | exact Prm.refl _ | (apply Prm.take; repeat (first | exact Sel.here _ _ | apply Sel.there)) | refine Prm.drop ?_))
      refine r_cv (hy.2 _ _ _ hsp) fun v L hL => ?_
      rcases hL with ⟨rfl, rfl⟩ | ⟨rfl, rfl⟩
      · refine r_nm ?_
        repeat (first | refine r_p ?_ | refine r_l ?_ | refine r_s ?_ | refine r_n fun _ => ?_ | refine r_end ?_ | refine e_r ?_ | refine e_d pl191 ?_ | refine e_j ?_ | refine e_true ?_ | refine e_false ?_ | refine r_tt ?_ | refine r_ff ?_ | refine e_tt ?_ | refine e_ff ?_)
        refine e_o (by repeat (first | exact Sel.here _ _ | apply Sel.there)) fun g3 hok3 => ?_
        refine e_rnext hLP (by repeat (first | exact Sel.here _ _ | apply Sel.there)) ⟨_, .inl ⟨rfl, rfl⟩, ?_⟩
        rw [hfm, hp]
        simp only [Option.toList]
        refine n_s g3 hok3 ?_
        (refine Prm.ent ?_; repeat (first | exact Prm.refl _ | (apply Prm.take; repeat (first | exact Sel.here _ _ | apply Sel.there)) | refine Prm.drop ?_))
      · refine r_nm ?_
        repeat (first | refine r_p ?_ | refine r_l ?_ | refine r_s ?_ | refine r_n fun _ => ?_ | refine r_end ?_ | refine e_r ?_ | refine e_d pl191 ?_ | refine e_j ?_ | refine e_true ?_ | refine e_false ?_ | refine r_tt ?_ | refine r_ff ?_ | refine e_tt ?_ | refine e_ff ?_)
        refine e_o (by repeat (first | exact Sel.here _ _ | apply Sel.there)) fun g3 hok3 => ?_
        refine e_rexit hLP (by repeat (first | exact Sel.here _ _ | apply Sel.there)) ⟨_, .inr ⟨rfl, rfl⟩, ?_⟩
        have hfm2 : (done ++ [k]).filterMap (pickT l) = done.filterMap (pickT l) ++ [(k, s)] := by rw [hfm, hp]; rfl
        refine n_s g3 ⟨hok3, done, k, _, rfl, hp⟩ ?_
        rw [hfm2]
        (refine Prm.ent ?_; repeat (first | exact Prm.refl _ | (apply Prm.take; repeat (first | exact Sel.here _ _ | apply Sel.there)) | refine Prm.drop ?_))
  · refine n_s g hok ?_
    simp only [List.filterMap_nil]
    (refine Prm.ent ?_; repeat (first | exact Prm.refl _ | (apply Prm.take; repeat (first | exact Sel.here _ _ | apply Sel.there)) | refine Prm.drop ?_))
  · rintro v0 L0 ⟨_, rfl | ⟨done, i, rest, hx, rfl⟩⟩
    · simp only [List.cons_append, List.nil_append, usedL_ons]
      refine Aft.rep fun g2 hok2 => ?_
      simp only [List.cons_append, List.nil_append]
      refine Aft.ent (H' := df D :: LP .ready none :: J (usedL l) :: cl c [ptr b] 106 :: tbR b bm l :: R) ?_ ?_
      · refine aft_end .ready (by repeat (first | exact Sel.here _ _ | apply Sel.there)) ?_
        repeat (first | refine r_p ?_ | refine r_l ?_ | refine r_s ?_ | refine r_n fun _ => ?_ | refine r_end ?_ | refine e_r ?_ | refine e_d pl191 ?_ | refine e_j ?_ | refine e_true ?_ | refine e_false ?_ | refine r_tt ?_ | refine r_ff ?_ | refine e_tt ?_ | refine e_ff ?_)
        refine e_mark (by repeat (first | exact Sel.here _ _ | apply Sel.there)) ?_
        refine e_ret ⟨_, ⟨rfl, .inl rfl⟩, ?_⟩
        (refine Prm.ent ?_; repeat (first | exact Prm.refl _ | (apply Prm.take; repeat (first | exact Sel.here _ _ | apply Sel.there)) | refine Prm.drop ?_))
      · refine Ent.trans (B := tbR b bm l :: df D :: LP .ready none :: J (usedL l) :: cl c [ptr b] 106 :: R) ?_ (by (refine Prm.ent ?_; repeat (first | exact Prm.refl _ | (apply Prm.take; repeat (first | exact Sel.here _ _ | apply Sel.there)) | refine Prm.drop ?_)))
        refine n_s g2 hok2 ?_
        (refine Prm.ent ?_; repeat (first | exact Prm.refl _ | (apply Prm.take; repeat (first | exact Sel.here _ _ | apply Sel.there)) | refine Prm.drop ?_))
    · simp only [List.cons_append, List.nil_append]
      refine Aft.rep fun g2 hok2 => ?_
      simp only [List.cons_append, List.nil_append]
      obtain ⟨hok2, d2, i2, x, hd, hp⟩ := hok2
      have : i2 = i := by have := congrArg List.getLast? hd; simpa using this.symm
      subst this
      have hsp : usedL l = done.filterMap (pickT l) ++ x :: rest.filterMap (pickT l) := by
        rw [← usedL_ons, hx, List.filterMap_append, List.filterMap_cons, hp]
      have hfm : (done ++ [i2]).filterMap (pickT l) = done.filterMap (pickT l) ++ [x] := by
        rw [List.filterMap_append]; simp [hp]
      rw [hfm]
      refine Aft.ent (H' := df D :: LP .done (some .ret) :: X (done.filterMap (pickT l) ++ [x]) :: cl c [ptr b] 106 :: tbR b bm l :: R) ?_ ?_
      · refine aft_jump .ret (by repeat (first | exact Sel.here _ _ | apply Sel.there)) ?_
        repeat (first | refine r_p ?_ | refine r_l ?_ | refine r_s ?_ | refine r_n fun _ => ?_ | refine r_end ?_ | refine e_r ?_ | refine e_d pl191 ?_ | refine e_j ?_ | refine e_true ?_ | refine e_false ?_ | refine r_tt ?_ | refine r_ff ?_ | refine e_tt ?_ | refine e_ff ?_)
        refine e_mark (by repeat (first | exact Sel.here _ _ | apply Sel.there)) ?_
        refine e_ret ⟨_, ⟨rfl, .inr ⟨_, x, _, hsp, rfl⟩⟩, ?_⟩
        (refine Prm.ent ?_; repeat (first | exact Prm.refl _ | (apply Prm.take; repeat (first | exact Sel.here _ _ | apply Sel.there)) | refine Prm.drop ?_))
      · refine Ent.trans (B := tbR b bm l :: df D :: LP .done (some .ret) :: X (done.filterMap (pickT l) ++ [x]) :: cl c [ptr b] 106 :: R) ?_ (by (refine Prm.ent ?_; repeat (first | exact Prm.refl _ | (apply Prm.take; repeat (first | exact Sel.here _ _ | apply Sel.there)) | refine Prm.drop ?_)))
        refine n_s g2 hok2 ?_
        (refine Prm.ent ?_; repeat (first | exact Prm.refl _ | (apply Prm.take; repeat (first | exact Sel.here _ _ | apply Sel.there)) | refine Prm.drop ?_))
theorem table_All (b : Nat) : Ct Tryz.prog 77 [ptr b] [] (exi (fun c : Nat => .func (.func 191) #[] #[ptr c]) (fun c => [cl c [ptr b] 106]) (fun _ => True)) := by
  refine ct_intro Tryz.func77 rfl Tryz.ntmps77 Tryz.results77 fun R => e_nf ?_
  repeat (first | refine r_p ?_ | refine r_l ?_ | refine r_s ?_ | refine r_n fun _ => ?_ | refine r_end ?_ | refine e_r ?_ | refine e_j ?_ | refine e_true ?_ | refine e_false ?_ | refine r_tt ?_ | refine r_ff ?_ | refine e_tt ?_ | refine e_ff ?_)
  refine e_retx _ trivial ?_
  (refine Prm.ent ?_; repeat (first | exact Prm.refl _ | (apply Prm.take; repeat (first | exact Sel.here _ _ | apply Sel.there)) | refine Prm.drop ?_))
theorem table_All1_seq (b bm c : Nat) (l : List SlS) : SeqC Tryz.prog 191 [] [ptr c] [cl c [ptr b] 106, tbR b bm l] [tbR b bm l] tokE (usedL l) :=
  fun fv J X hy => table_All1 b bm c l fv J X hy
