import Derived.Test.YtnignhaamlmelaaGreatDoorTb2
namespace Go.Proofs
open Go Go.Sl
set_option maxRecDepth 4000
attribute [local irreducible] Ex Run Ct Kt.body Sat Ent
abbrev optr (o : Option Nat) : Value := .pointer (o.map fun b => ⟨b, 0, none⟩)
abbrev omap (o : Option Nat) : Value := .map o

/-! ### The tree -/
structure TrS where
  par : List (Int × Int)
  last : Int
def treeR (b : Nat) (T : TrS) : SP := rep (fun _ : Nat => True) fun mt => [cl b [.map (some mt), it T.last] 284, mp mt it it T.par]
def tr0 : TrS := ⟨[], 0⟩
theorem tree_New : Ct Tryz.prog 154 [] [] (exi (fun b : Nat => ptr b) (fun b => [treeR b tr0]) (fun _ => True)) := by
  refine ct_intro Tryz.func154 rfl Tryz.ntmps154 Tryz.results154 fun R => e_nf ?_
  repeat (first | refine r_p ?_ | refine r_l ?_ | refine r_s ?_ | refine r_n fun _ => ?_ | refine r_end ?_ | refine e_r ?_ | refine e_j ?_ | refine e_true ?_ | refine e_false ?_ | refine r_tt ?_ | refine r_ff ?_ | refine e_tt ?_ | refine e_ff ?_)
  refine r_mm it it fun mt => ?_
  repeat (first | refine r_p ?_ | refine r_l ?_ | refine r_s ?_ | refine r_n fun _ => ?_ | refine r_end ?_ | refine e_r ?_ | refine e_j ?_ | refine e_true ?_ | refine e_false ?_ | refine r_tt ?_ | refine r_ff ?_ | refine e_tt ?_ | refine e_ff ?_)
  refine e_retx _ trivial ?_
  refine n_s mt trivial ?_
  (refine Prm.ent ?_; repeat (first | exact Prm.refl _ | (apply Prm.take; repeat (first | exact Sel.here _ _ | apply Sel.there)) | refine Prm.drop ?_))
theorem tree_Len (b : Nat) (T : TrS) : Ct Tryz.prog 76 [ptr b] [treeR b T] (det (it T.par.length) [treeR b T]) := by
  refine ct_intro Tryz.func76 rfl Tryz.ntmps76 Tryz.results76 fun R => e_nf ?_
  refine e_o (by repeat (first | exact Sel.here _ _ | apply Sel.there)) fun g hok => ?_
  repeat (first | refine r_p ?_ | refine r_l ?_ | refine r_s ?_ | refine r_n fun _ => ?_ | refine r_end ?_ | refine e_r ?_ | refine e_j ?_ | refine e_true ?_ | refine e_false ?_ | refine r_tt ?_ | refine r_ff ?_ | refine e_tt ?_ | refine e_ff ?_)
  refine r_ml (by repeat (first | exact Sel.here _ _ | apply Sel.there)) ?_
  repeat (first | refine r_p ?_ | refine r_l ?_ | refine r_s ?_ | refine r_n fun _ => ?_ | refine r_end ?_ | refine e_r ?_ | refine e_j ?_ | refine e_true ?_ | refine e_false ?_ | refine r_tt ?_ | refine r_ff ?_ | refine e_tt ?_ | refine e_ff ?_)
  refine e_ret0 ?_
  refine n_s g hok ?_
  (refine Prm.ent ?_; repeat (first | exact Prm.refl _ | (apply Prm.take; repeat (first | exact Sel.here _ _ | apply Sel.there)) | refine Prm.drop ?_))

/-! ### The remset -/
abbrev RefS := Int × Int
abbrev NestS := List (Int × Nat × List RefS)
def nestR (l : NestS) : SP := grp (l.map fun x => mp x.2.1 it2 it (x.2.2.map fun r => (r, (1 : Int))))
abbrev nestM (l : NestS) : List (Int × Option Nat) := l.map fun x => (x.1, some x.2.1)
/-- what stands under the numbers is just what is told by f of the references -/
structure NestOk (R : List (RefS × Int)) (f : RefS × Int → Int) (l : NestS) : Prop where
  some : ∀ x ∈ l, x.2.2 ≠ [] ∧ x.2.2.Nodup ∧ ∀ r, r ∈ x.2.2 ↔ ∃ t, (r, t) ∈ R ∧ f (r, t) = x.1
  all : ∀ x ∈ R, f x ∈ l.map (·.1)
structure RemG where
  mto : Nat
  mof : Nat
  mfr : Nat
  ofs : NestS
  frs : NestS
abbrev remL (b : Nat) (R : List (RefS × Int)) (g : RemG) : List SP := [cl b [.map (some g.mto), .map (some g.mof), .map (some g.mfr)] 293, mp g.mto it2 it R, mp g.mof it omap (nestM g.ofs), nestR g.ofs, mp g.mfr it omap (nestM g.frs), nestR g.frs]
def remR (b : Nat) (R : List (RefS × Int)) : SP := rep (fun g : RemG => NestOk R (·.2) g.ofs ∧ NestOk R (·.1.1) g.frs) (remL b R)
theorem remset_New : Ct Tryz.prog 155 [] [] (exi (fun b : Nat => ptr b) (fun b => [remR b []]) (fun _ => True)) := by
  refine ct_intro Tryz.func155 rfl Tryz.ntmps155 Tryz.results155 fun R => e_nf ?_
  repeat (first | refine r_p ?_ | refine r_l ?_ | refine r_s ?_ | refine r_n fun _ => ?_ | refine r_end ?_ | refine e_r ?_ | refine e_j ?_ | refine e_true ?_ | refine e_false ?_ | refine r_tt ?_ | refine r_ff ?_ | refine e_tt ?_ | refine e_ff ?_)
  refine r_mm it2 it fun mt => ?_
  repeat (first | refine r_p ?_ | refine r_l ?_ | refine r_s ?_ | refine r_n fun _ => ?_ | refine r_end ?_ | refine e_r ?_ | refine e_j ?_ | refine e_true ?_ | refine e_false ?_ | refine r_tt ?_ | refine r_ff ?_ | refine e_tt ?_ | refine e_ff ?_)
  refine r_mm it omap fun mo => ?_
  repeat (first | refine r_p ?_ | refine r_l ?_ | refine r_s ?_ | refine r_n fun _ => ?_ | refine r_end ?_ | refine e_r ?_ | refine e_j ?_ | refine e_true ?_ | refine e_false ?_ | refine r_tt ?_ | refine r_ff ?_ | refine e_tt ?_ | refine e_ff ?_)
  refine r_mm it omap fun mf => ?_
  repeat (first | refine r_p ?_ | refine r_l ?_ | refine r_s ?_ | refine r_n fun _ => ?_ | refine r_end ?_ | refine e_r ?_ | refine e_j ?_ | refine e_true ?_ | refine e_false ?_ | refine r_tt ?_ | refine r_ff ?_ | refine e_tt ?_ | refine e_ff ?_)
  refine e_retx _ trivial ?_
  refine n_s ⟨mt, mo, mf, [], []⟩ ⟨⟨by simp, by simp⟩, ⟨by simp, by simp⟩⟩ ?_
  simp only [remL, nestM, List.map_nil]
  exact (Ent.trans stars_nil (Ent.trans stars_nil (by simp only [nestR, List.map_nil]; (refine Prm.ent ?_; repeat (first | exact Prm.refl _ | (apply Prm.take; repeat (first | exact Sel.here _ _ | apply Sel.there)) | refine Prm.drop ?_)))))

/-! ### The book -/
structure LayS where
  fixed : Nat
  refs : List Nat
  recd : Nat
  rrefs : List Nat
  deriving DecidableEq
abbrev ints (l : List Nat) : List Value := l.map fun n : Nat => it (n : Int)
abbrev layC (x : LayS × Value × Value) : List Value := [it x.1.fixed, x.2.1, it x.1.recd, x.2.2]
abbrev layP (x : LayS × Value × Value) : SP := grp [slR 3 1 x.1.refs.length x.2.1 (ints x.1.refs), slR 3 1 x.1.rrefs.length x.2.2 (ints x.1.rrefs)]
abbrev bkL (b : Nat) (g : Value × List (LayS × Value × Value)) : List SP := [cl b [g.1] 338, slR 100 4 g.2.length g.1 ((g.2.map layC).flatten), grp (g.2.map layP)]
def bkR (b : Nat) (L : List LayS) : SP := rep (fun g : Value × List (LayS × Value × Value) => g.2.map (·.1) = L ∧ L.length ≤ 64) (bkL b)
theorem layout_NewBook : Ct Tryz.prog 152 [] [] (exi (fun b : Nat => ptr b) (fun b => [bkR b []]) (fun _ => True)) := by
  refine ct_intro Tryz.func152 rfl Tryz.ntmps152 Tryz.results152 fun R => e_nf ?_
  repeat (first | refine r_p ?_ | refine r_l ?_ | refine r_s ?_ | refine r_n fun _ => ?_ | refine r_end ?_ | refine e_r ?_ | refine e_j ?_ | refine e_true ?_ | refine e_false ?_ | refine r_tt ?_ | refine r_ff ?_ | refine e_tt ?_ | refine e_ff ?_)
  refine e_retx _ trivial ?_
  refine n_s (.slice none 0 0, []) ⟨rfl, by simp⟩ ?_
  simp only [bkL, List.map_nil, List.flatten_nil, List.length_nil]
  refine Ent.cons ?_
  exact Ent.trans stars_nil (Ent.trans sl_nil (Ent.refl _))

/-! ### Bags and spaces -/
def bgR (b : Nat) (l : List Int) : SP := rep (fun _ : Value => l.Pairwise (· < ·)) fun v => [cl b [v] 307, slR 3 1 l.length v (l.map it)]
structure SpS where
  owner : Int
  parts : List (Nat × Nat)
  cur : Nat
  lim : Nat
def spR (b bs : Nat) (S : SpS) : SP := rep (fun _ : Value => S.cur ≤ S.lim) fun v => [cl b [ptr bs, it S.owner, v, it S.cur, it S.lim] 330, slR 332 2 S.parts.length v ((S.parts.map fun x => [it x.1, it x.2]).flatten)]

/-! ### Cells -/
structure CeP where
  c : Nat
  st : Nat
  bk : Nat
  im : Nat
  tb : Nat
  tm : Nat
  tr : Nat
  rm : Nat
  sp : Nat
  mi : Nat
  spp : List Nat
  mip : List Nat
structure CeS where
  st : StS
  bk : List LayS
  tb : List SlS
  tr : TrS
  rm : List (RefS × Int)
  spaces : List (Int × SpS)
  mine : List (Int × List Int)
abbrev ptrs {α : Type} (l : List (Int × α)) (ps : List Nat) : List (Int × Option Nat) := List.zipWith (fun x q => (x.1, some q)) l ps
abbrev imR (b bs bk : Nat) : SP := cl b [ptr bs, ptr bk] 346
abbrev ceL (p : CeP) (S : CeS) : List SP := [cl p.c [ptr p.st, ptr p.bk, ptr p.im, ptr p.tb, ptr p.tr, ptr p.rm, .map (some p.sp), .map (some p.mi)] 112,
  stR p.st S.st, bkR p.bk S.bk, imR p.im p.st p.bk, tbR p.tb p.tm S.tb, treeR p.tr S.tr, remR p.rm S.rm,
  mp p.sp it optr (ptrs S.spaces p.spp), grp (List.zipWith (fun x q => spR q p.st x.2) S.spaces p.spp),
  mp p.mi it optr (ptrs S.mine p.mip), grp (List.zipWith (fun x q => bgR q x.2) S.mine p.mip)]
def ceR (p : CeP) (S : CeS) : SP := rep (fun _ : Unit => p.spp.length = S.spaces.length ∧ p.mip.length = S.mine.length) fun _ => ceL p S
def ce0 (c w n : Nat) : CeS := ⟨st0 c w, [], List.replicate n slot0, tr0, [], [], []⟩
theorem image_New (bs bk : Nat) : Ct Tryz.prog 153 [ptr bs, ptr bk] [] (exi (fun b : Nat => .tuple #[ptr b, it 0]) (fun b => [imR b bs bk]) (fun _ => True)) := by
  refine ct_intro Tryz.func153 rfl Tryz.ntmps153 Tryz.results153 fun R => e_nf ?_
  repeat (first | refine r_p ?_ | refine r_l ?_ | refine r_s ?_ | refine r_n fun _ => ?_ | refine r_end ?_ | refine e_r ?_ | refine e_j ?_ | refine e_true ?_ | refine e_false ?_ | refine r_tt ?_ | refine r_ff ?_ | refine e_tt ?_ | refine e_ff ?_)
  refine e_retx _ trivial ?_
  (refine Prm.ent ?_; repeat (first | exact Prm.refl _ | (apply Prm.take; repeat (first | exact Sel.here _ _ | apply Sel.there)) | refine Prm.drop ?_))
theorem cell_New (c w n : Nat) (h1 : 1 ≤ c) (h2 : c ≤ 1024) (h3 : 1 ≤ w) (h4 : w ≤ 1024) (h5 : 1 ≤ n) (h6 : n ≤ 4096) :
    Ct Tryz.prog 46 [it c, it w, it n] [] (exi (fun p : CeP => .tuple #[ptr p.c, it 0]) (fun p => [ceR p (ce0 c w n)]) (fun p => p.spp = [] ∧ p.mip = [])) := by
  refine ct_intro Tryz.func46 rfl Tryz.ntmps46 Tryz.results46 fun R => e_nf ?_
  repeat (first | refine r_p ?_ | refine r_l ?_ | refine r_s ?_ | refine r_n fun _ => ?_ | refine r_end ?_ | refine e_r ?_ | refine e_j ?_ | refine e_true ?_ | refine e_false ?_ | refine r_tt ?_ | refine r_ff ?_ | refine e_tt ?_ | refine e_ff ?_)
  refine r_x (store_New c w h1 h2 h3 h4) fun bs _ => ?_
  repeat (first | refine r_p ?_ | refine r_l ?_ | refine r_s ?_ | refine r_n fun _ => ?_ | refine r_end ?_ | refine e_r ?_ | refine e_j ?_ | refine e_true ?_ | refine e_false ?_ | refine r_tt ?_ | refine r_ff ?_ | refine e_tt ?_ | refine e_ff ?_)
  refine r_x (table_New n h5 h6) fun bt _ => ?_
  repeat (first | refine r_p ?_ | refine r_l ?_ | refine r_s ?_ | refine r_n fun _ => ?_ | refine r_end ?_ | refine e_r ?_ | refine e_j ?_ | refine e_true ?_ | refine e_false ?_ | refine r_tt ?_ | refine r_ff ?_ | refine e_tt ?_ | refine e_ff ?_)
  refine r_x layout_NewBook fun bk _ => ?_
  repeat (first | refine r_p ?_ | refine r_l ?_ | refine r_s ?_ | refine r_n fun _ => ?_ | refine r_end ?_ | refine e_r ?_ | refine e_j ?_ | refine e_true ?_ | refine e_false ?_ | refine r_tt ?_ | refine r_ff ?_ | refine e_tt ?_ | refine e_ff ?_)
  refine r_x (image_New bs bk) fun bi _ => ?_
  repeat (first | refine r_p ?_ | refine r_l ?_ | refine r_s ?_ | refine r_n fun _ => ?_ | refine r_end ?_ | refine e_r ?_ | refine e_j ?_ | refine e_true ?_ | refine e_false ?_ | refine r_tt ?_ | refine r_ff ?_ | refine e_tt ?_ | refine e_ff ?_)
  refine r_x tree_New fun btr _ => ?_
  repeat (first | refine r_p ?_ | refine r_l ?_ | refine r_s ?_ | refine r_n fun _ => ?_ | refine r_end ?_ | refine e_r ?_ | refine e_j ?_ | refine e_true ?_ | refine e_false ?_ | refine r_tt ?_ | refine r_ff ?_ | refine e_tt ?_ | refine e_ff ?_)
  refine r_x remset_New fun brm _ => ?_
  repeat (first | refine r_p ?_ | refine r_l ?_ | refine r_s ?_ | refine r_n fun _ => ?_ | refine r_end ?_ | refine e_r ?_ | refine e_j ?_ | refine e_true ?_ | refine e_false ?_ | refine r_tt ?_ | refine r_ff ?_ | refine e_tt ?_ | refine e_ff ?_)
  refine r_mm it optr fun bsp => ?_
  repeat (first | refine r_p ?_ | refine r_l ?_ | refine r_s ?_ | refine r_n fun _ => ?_ | refine r_end ?_ | refine e_r ?_ | refine e_j ?_ | refine e_true ?_ | refine e_false ?_ | refine r_tt ?_ | refine r_ff ?_ | refine e_tt ?_ | refine e_ff ?_)
  refine r_mm it optr fun bmi => ?_
  repeat (first | refine r_p ?_ | refine r_l ?_ | refine r_s ?_ | refine r_n fun _ => ?_ | refine r_end ?_ | refine e_r ?_ | refine e_j ?_ | refine e_true ?_ | refine e_false ?_ | refine r_tt ?_ | refine r_ff ?_ | refine e_tt ?_ | refine e_ff ?_)
  refine e_retx ⟨_, bs, bk, bi, bt.1, bt.2, btr, brm, bsp, bmi, [], []⟩ ⟨rfl, rfl⟩ ?_
  refine n_s () ⟨rfl, rfl⟩ ?_
  simp only [ceL, ce0, ptrs, List.zipWith_nil_right]
  exact Ent.trans stars_nil (Ent.trans stars_nil (by (refine Prm.ent ?_; repeat (first | exact Prm.refl _ | (apply Prm.take; repeat (first | exact Sel.here _ _ | apply Sel.there)) | refine Prm.drop ?_))))

/-! ### A heap -/
structure HpP where
  h : Nat
  ce : CeP
/-- without an evacuation -/
abbrev hp0 (p : HpP) (S : CeS) : List SP := [cl p.h [ptr p.ce.c, it 0, .pointer none, .pointer none] 54, ceR p.ce S]
theorem evac_New (c w n : Nat) (h1 : 1 ≤ c) (h2 : c ≤ 1024) (h3 : 1 ≤ w) (h4 : w ≤ 1024) (h5 : 1 ≤ n) (h6 : n ≤ 4096) :
    Ct Tryz.prog 82 [it c, it w, it n] [] (exi (fun p : HpP => .tuple #[ptr p.h, it 0]) (fun p => hp0 p (ce0 c w n)) (fun p => p.ce.spp = [] ∧ p.ce.mip = [])) := by
  refine ct_intro Tryz.func82 rfl Tryz.ntmps82 Tryz.results82 fun R => e_nf ?_
  repeat (first | refine r_p ?_ | refine r_l ?_ | refine r_s ?_ | refine r_n fun _ => ?_ | refine r_end ?_ | refine e_r ?_ | refine e_j ?_ | refine e_true ?_ | refine e_false ?_ | refine r_tt ?_ | refine r_ff ?_ | refine e_tt ?_ | refine e_ff ?_)
  refine r_x (cell_New c w n h1 h2 h3 h4 h5 h6) fun p hp => ?_
  repeat (first | refine r_p ?_ | refine r_l ?_ | refine r_s ?_ | refine r_n fun _ => ?_ | refine r_end ?_ | refine e_r ?_ | refine e_j ?_ | refine e_true ?_ | refine e_false ?_ | refine r_tt ?_ | refine r_ff ?_ | refine e_tt ?_ | refine e_ff ?_)
  refine e_retx ⟨_, p⟩ hp ?_
  (refine Prm.ent ?_; repeat (first | exact Prm.refl _ | (apply Prm.take; repeat (first | exact Sel.here _ _ | apply Sel.there)) | refine Prm.drop ?_))
