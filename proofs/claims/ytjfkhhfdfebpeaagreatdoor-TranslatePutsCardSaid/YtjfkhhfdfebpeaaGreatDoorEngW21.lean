/- Making: terms, at depth 0. -/
import Derived.Test.YtjfkhhfdfebpeaaGreatDoorEngT
import Derived.Test.YtjfkhhfdfebpeaaGreatDoorEngTab
import Derived.Test.YtjfkhhfdfebpeaaGreatDoorEngW18
import Derived.Test.YtjfkhhfdfebpeaaGreatDoorEngW20
import Derived.Test.YtjfkhhfdfebpeaaGreatDoorEngW5
import Derived.Test.YtjfkhhfdfebpeaaGreatDoorEngZ
set_option linter.all false
set_option linter.unusedVariables false
set_option linter.unusedSimpArgs false
set_option maxRecDepth 100000
set_option maxHeartbeats 4000000
namespace Eng
open Go
section
variable {R : RProg} {G : Nat → AV}
theorem call21bN (hR : Has R G c21) (l : List Int) (hl : l.length ≤ 500) (d : Int) (hd : d ≤ 0 ∧ -1000 < d) (r : List Ty) (hr : CtxOk 1000 r) (a : Int) (ha : 0 ≤ a ∧ a ≤ 500) :
    ∃ (u : Tm) (a' : Int), (Lim R G).call 21 [.ptr 0 0, .pl (.sl 2 (ctxR r)), .st 2 (Ty.enc Ty.nat), .pl (.int .i64 (d))] [dk l a] = some (.st 5 u.enc, [dk l a']) ∧ ((0 ≤ a' ∧ a' ≤ 500) ∧ u.size ≤ 6) ∧ Tm.Gd r Ty.nat 6 u := by
  have hT : (Ty.nat).Sm 3 := Ty.Sm.nat (by decide)
  have hE : Ty.enc Ty.nat = [.int .i64 1, .sl 2 []] := rfl
  have hr1 := hr.1
  have s16 := call16 (hR.sub (by kernel_rfl)) l hl
  have s41 := call41 (hR.sub (by kernel_rfl)) r Ty.nat (by omega) (fun u hu => by have := (hr.2 u hu).sz; omega) (by have := hT.sz; omega)
  have e42 : ∀ i : Int, (Lim R G).call 42 [.pl (.int .i64 (i))] [] = some (.st 5 (Tm.enc (Tm.var i)), []) := fun i => call42 (hR.sub (by kernel_rfl)) i
  have e12 : ∀ v : Int, 0 ≤ v → v < 4096 → (Lim R G).call 12 [.pl (.int .i64 (v))] [] = some (.st 5 (Tm.numl v.toNat).enc, []) := fun v h1 h2 => by
    have := call12 (hR.sub (by kernel_rfl)) v.toNat (by omega)
    rwa [show ((v.toNat : Nat) : Int) = v by omega] at this
  have e44z := fun k => call44z (hR.sub (by kernel_rfl)) k
  rw [hE] at s41 ⊢
  refine ex2 (call_ofE (hR.at 21 (by kernel_rfl) tab21) (by rfl) ?_)
  unfold dk at *
  generalize (l.map fun n => [PV.int .i64 n]) = rs at *
  generalize ctxR r = gs at *
  generalize Tm.enc = te at *
  repeat' (first | refine uU ?_ | refine uV fun z hz => ?_ | refine uW fun zs hzs => ?_ | refine dq (fun hq => ?_) fun hq => ?_)
  refine dE (by cbv; fail_if_success intros) (by exact s41) ?_
  intro vs _ hvs
  obtain ⟨hvl, hvs⟩ := hvs
  refine ⟨_, _, _, by cbv, ?_⟩
  repeat' (first | refine uU ?_ | refine uV fun z hz => ?_ | refine uW fun zs hzs => ?_ | refine dq (fun hq => ?_) fun hq => ?_ | refine dc ?_ (h2 := by first | exact e42 _ | exact e12 _ (by omega) (by omega) | exact e44z _) | (refine dE (by cbv; fail_if_success intros) (by first | exact s16 _ _ (by omega) (by omega)) ?_; intro x a1 hx; refine ⟨_, _, _, by cbv, ?_⟩) | (refine diE (by cbv; fail_if_success intros) (by cbv; fail_if_success intros) (by cbv; fail_if_success intros) (by exact hvs _ (by omega) (by omega)) (by omega) ?_; intro v1 hv1))
  all_goals (
    refine finP_ret (by cbv) ?_
    refine ⟨_, _, rfl, Tm.Gd.pk (by omega) ?_⟩
    apply Tm.Gd.mono
    · first
        | exact Tm.Gd.numl _
        | exact Tm.Gd.nil
        | exact Tm.Gd.unit
        | exact Tm.Gd.var hv1.1 hv1.2
    · omega)
theorem call21bL (hR : Has R G c21) (l : List Int) (hl : l.length ≤ 500) (d : Int) (hd : d ≤ 0 ∧ -1000 < d) (r : List Ty) (hr : CtxOk 1000 r) (a : Int) (ha : 0 ≤ a ∧ a ≤ 500) :
    ∃ (u : Tm) (a' : Int), (Lim R G).call 21 [.ptr 0 0, .pl (.sl 2 (ctxR r)), .st 2 (Ty.enc Ty.list), .pl (.int .i64 (d))] [dk l a] = some (.st 5 u.enc, [dk l a']) ∧ ((0 ≤ a' ∧ a' ≤ 500) ∧ u.size ≤ 6) ∧ Tm.Gd r Ty.list 6 u := by
  have hT : (Ty.list).Sm 3 := Ty.Sm.list (by decide)
  have hE : Ty.enc Ty.list = [.int .i64 2, .sl 2 []] := rfl
  have hr1 := hr.1
  have s16 := call16 (hR.sub (by kernel_rfl)) l hl
  have s41 := call41 (hR.sub (by kernel_rfl)) r Ty.list (by omega) (fun u hu => by have := (hr.2 u hu).sz; omega) (by have := hT.sz; omega)
  have e42 : ∀ i : Int, (Lim R G).call 42 [.pl (.int .i64 (i))] [] = some (.st 5 (Tm.enc (Tm.var i)), []) := fun i => call42 (hR.sub (by kernel_rfl)) i
  have e12 : ∀ v : Int, 0 ≤ v → v < 4096 → (Lim R G).call 12 [.pl (.int .i64 (v))] [] = some (.st 5 (Tm.numl v.toNat).enc, []) := fun v h1 h2 => by
    have := call12 (hR.sub (by kernel_rfl)) v.toNat (by omega)
    rwa [show ((v.toNat : Nat) : Int) = v by omega] at this
  have e44z := fun k => call44z (hR.sub (by kernel_rfl)) k
  rw [hE] at s41 ⊢
  refine ex2 (call_ofE (hR.at 21 (by kernel_rfl) tab21) (by rfl) ?_)
  unfold dk at *
  generalize (l.map fun n => [PV.int .i64 n]) = rs at *
  generalize ctxR r = gs at *
  generalize Tm.enc = te at *
  repeat' (first | refine uU ?_ | refine uV fun z hz => ?_ | refine uW fun zs hzs => ?_ | refine dq (fun hq => ?_) fun hq => ?_)
  refine dE (by cbv; fail_if_success intros) (by exact s41) ?_
  intro vs _ hvs
  obtain ⟨hvl, hvs⟩ := hvs
  refine ⟨_, _, _, by cbv, ?_⟩
  repeat' (first | refine uU ?_ | refine uV fun z hz => ?_ | refine uW fun zs hzs => ?_ | refine dq (fun hq => ?_) fun hq => ?_ | refine dc ?_ (h2 := by first | exact e42 _ | exact e12 _ (by omega) (by omega) | exact e44z _) | (refine dE (by cbv; fail_if_success intros) (by first | exact s16 _ _ (by omega) (by omega)) ?_; intro x a1 hx; refine ⟨_, _, _, by cbv, ?_⟩) | (refine diE (by cbv; fail_if_success intros) (by cbv; fail_if_success intros) (by cbv; fail_if_success intros) (by exact hvs _ (by omega) (by omega)) (by omega) ?_; intro v1 hv1))
  all_goals (
    refine finP_ret (by cbv) ?_
    refine ⟨_, _, rfl, Tm.Gd.pk (by omega) ?_⟩
    apply Tm.Gd.mono
    · first
        | exact Tm.Gd.numl _
        | exact Tm.Gd.nil
        | exact Tm.Gd.unit
        | exact Tm.Gd.var hv1.1 hv1.2
    · omega)
theorem call21bU (hR : Has R G c21) (l : List Int) (hl : l.length ≤ 500) (d : Int) (hd : d ≤ 0 ∧ -1000 < d) (r : List Ty) (hr : CtxOk 1000 r) (a : Int) (ha : 0 ≤ a ∧ a ≤ 500) :
    ∃ (u : Tm) (a' : Int), (Lim R G).call 21 [.ptr 0 0, .pl (.sl 2 (ctxR r)), .st 2 (Ty.enc Ty.unit), .pl (.int .i64 (d))] [dk l a] = some (.st 5 u.enc, [dk l a']) ∧ ((0 ≤ a' ∧ a' ≤ 500) ∧ u.size ≤ 6) ∧ Tm.Gd r Ty.unit 6 u := by
  have hT : (Ty.unit).Sm 3 := Ty.Sm.unit (by decide)
  have hE : Ty.enc Ty.unit = [.int .i64 5, .sl 2 []] := rfl
  have hr1 := hr.1
  have s16 := call16 (hR.sub (by kernel_rfl)) l hl
  have s41 := call41 (hR.sub (by kernel_rfl)) r Ty.unit (by omega) (fun u hu => by have := (hr.2 u hu).sz; omega) (by have := hT.sz; omega)
  have e42 : ∀ i : Int, (Lim R G).call 42 [.pl (.int .i64 (i))] [] = some (.st 5 (Tm.enc (Tm.var i)), []) := fun i => call42 (hR.sub (by kernel_rfl)) i
  have e12 : ∀ v : Int, 0 ≤ v → v < 4096 → (Lim R G).call 12 [.pl (.int .i64 (v))] [] = some (.st 5 (Tm.numl v.toNat).enc, []) := fun v h1 h2 => by
    have := call12 (hR.sub (by kernel_rfl)) v.toNat (by omega)
    rwa [show ((v.toNat : Nat) : Int) = v by omega] at this
  have e44z := fun k => call44z (hR.sub (by kernel_rfl)) k
  rw [hE] at s41 ⊢
  refine ex2 (call_ofE (hR.at 21 (by kernel_rfl) tab21) (by rfl) ?_)
  unfold dk at *
  generalize (l.map fun n => [PV.int .i64 n]) = rs at *
  generalize ctxR r = gs at *
  generalize Tm.enc = te at *
  repeat' (first | refine uU ?_ | refine uV fun z hz => ?_ | refine uW fun zs hzs => ?_ | refine dq (fun hq => ?_) fun hq => ?_)
  refine dE (by cbv; fail_if_success intros) (by exact s41) ?_
  intro vs _ hvs
  obtain ⟨hvl, hvs⟩ := hvs
  refine ⟨_, _, _, by cbv, ?_⟩
  repeat' (first | refine uU ?_ | refine uV fun z hz => ?_ | refine uW fun zs hzs => ?_ | refine dq (fun hq => ?_) fun hq => ?_ | refine dc ?_ (h2 := by first | exact e42 _ | exact e12 _ (by omega) (by omega) | exact e44z _) | (refine dE (by cbv; fail_if_success intros) (by first | exact s16 _ _ (by omega) (by omega)) ?_; intro x a1 hx; refine ⟨_, _, _, by cbv, ?_⟩) | (refine diE (by cbv; fail_if_success intros) (by cbv; fail_if_success intros) (by cbv; fail_if_success intros) (by exact hvs _ (by omega) (by omega)) (by omega) ?_; intro v1 hv1))
  all_goals (
    refine finP_ret (by cbv) ?_
    refine ⟨_, _, rfl, Tm.Gd.pk (by omega) ?_⟩
    apply Tm.Gd.mono
    · first
        | exact Tm.Gd.numl _
        | exact Tm.Gd.nil
        | exact Tm.Gd.unit
        | exact Tm.Gd.var hv1.1 hv1.2
    · omega)
theorem call21b1 (hR : Has R G c21) (l : List Int) (hl : l.length ≤ 500) (t : Ty) (ht : t.Sm 1) (d : Int) (hd : d ≤ 0 ∧ -1000 < d) (r : List Ty) (hr : CtxOk 1000 r) (a : Int) (ha : 0 ≤ a ∧ a ≤ 500) :
    ∃ (u : Tm) (a' : Int), (Lim R G).call 21 [.ptr 0 0, .pl (.sl 2 (ctxR r)), .st 2 (Ty.enc t), .pl (.int .i64 (d))] [dk l a] = some (.st 5 u.enc, [dk l a']) ∧ ((0 ≤ a' ∧ a' ≤ 500) ∧ u.size ≤ 6) ∧ Tm.Gd r t 6 u := by
  rcases Ty.size1 ht with rfl | rfl | rfl
  · exact call21bN (hR.sub (by kernel_rfl)) l hl d hd r hr a ha
  · exact call21bL (hR.sub (by kernel_rfl)) l hl d hd r hr a ha
  · exact call21bU (hR.sub (by kernel_rfl)) l hl d hd r hr a ha
theorem call21bP (hR : Has R G c21) (l : List Int) (hl : l.length ≤ 500) (tx ty : Ty) (htx : tx.Sm 1) (hty : ty.Sm 1) (d : Int) (hd : d ≤ 0 ∧ -900 < d) (r : List Ty) (hr : CtxOk 900 r) (a : Int) (ha : 0 ≤ a ∧ a ≤ 500) :
    ∃ (u : Tm) (a' : Int), (Lim R G).call 21 [.ptr 0 0, .pl (.sl 2 (ctxR r)), .st 2 (Ty.enc (Ty.pair tx ty)), .pl (.int .i64 (d))] [dk l a] = some (.st 5 u.enc, [dk l a']) ∧ ((0 ≤ a' ∧ a' ≤ 500) ∧ u.size ≤ 14) ∧ Tm.Gd r (Ty.pair tx ty) 14 u := by
  have hT : ((Ty.pair tx ty)).Sm 3 := Ty.Sm.pair htx hty
  have hE : Ty.enc (Ty.pair tx ty) = [.int .i64 3, .sl 2 [tx.enc, ty.enc]] := by simp [Ty.pair, Ty.fn, Ty.enc, Ty.encs]
  have hr1 := hr.1
  have hxs := htx.sz
  have s16 := call16 (hR.sub (by kernel_rfl)) l hl
  have s41 := call41 (hR.sub (by kernel_rfl)) r (Ty.pair tx ty) (by omega) (fun u hu => by have := (hr.2 u hu).sz; omega) (by have := hT.sz; omega)
  have i1 : ∀ (s : Ty) (z a : Int), s.Sm 1 → z ≤ 0 ∧ -1000 < z → 0 ≤ a ∧ a ≤ 500 → _ := fun s z a h1 h2 h3 => call21b1 (hR.sub (by kernel_rfl)) l hl s h1 z h2 r (hr.mono (by omega)) a h3
  have i2 : ∀ (z a : Int), z ≤ 0 ∧ -1000 < z → 0 ≤ a ∧ a ≤ 500 → _ := fun z a h2 h3 => call21b1 (hR.sub (by kernel_rfl)) l hl ty hty z h2 (tx :: r) ((hr.cons (htx.mono (by omega))).mono (by omega)) a h3
  have e42 : ∀ i : Int, (Lim R G).call 42 [.pl (.int .i64 (i))] [] = some (.st 5 (Tm.enc (Tm.var i)), []) := fun i => call42 (hR.sub (by kernel_rfl)) i
  have e18 : (Lim R G).call 18 [.pl (.sl 2 (ctxR r)), .pl (.sl 2 ([tx.enc]))] [] = some (.pl (.sl 2 (ctxR (tx :: r))), []) := by
    have := call18 (hR.sub (by kernel_rfl)) (ctxR r) [tx.enc] (by rw [ctxR_len]; simp only [List.length_cons, List.length_nil]; omega)
    rwa [← ctxR_cons] at this
  have e44 : ∀ (k : Int) (u v : Tm), u.size ≤ 6 → v.size ≤ 6 → (Lim R G).call 44 [.pl (.int .i64 (k)), .pl (.sl 5 ([u.enc, v.enc]))] [] = some (.st 5 (Tm.n0 k [u, v]).enc, []) := fun k u v h1 h2 => call44s (hR.sub (by kernel_rfl)) k [u, v] (by simp only [Tm.sizes]; omega)
  have e43 : ∀ (k : Int) (u : Tm), u.size ≤ 6 → (Lim R G).call 43 [.pl (.int .i64 (k)), .st 2 tx.enc, .pl (.sl 5 ([u.enc]))] [] = some (.st 5 (Tm.n1 k tx [u]).enc, []) := fun k u h1 => call43s (hR.sub (by kernel_rfl)) k tx [u] (by omega) (by simp only [Tm.sizes]; omega)
  rw [hE] at s41 ⊢
  refine ex2 (call_ofE (hR.at 21 (by kernel_rfl) tab21) (by rfl) ?_)
  unfold dk at *
  generalize (l.map fun n => [PV.int .i64 n]) = rs at *
  generalize ctxR = cx at *
  generalize Tm.enc = te at *
  generalize Ty.enc = ye at *
  repeat' (first | refine uU ?_ | refine uV fun z hz => ?_ | refine uW fun zs hzs => ?_ | refine dq (fun hq => ?_) fun hq => ?_)
  refine dE (by cbv; fail_if_success intros) (by exact s41) ?_
  intro vs _ hvs
  obtain ⟨hvl, hvs⟩ := hvs
  refine ⟨_, _, _, by cbv, ?_⟩
  repeat' (first | refine uU ?_ | refine uV fun z hz => ?_ | refine uW fun zs hzs => ?_ | refine dq (fun hq => ?_) fun hq => ?_ | refine dc ?_ (h2 := by first | exact e42 _ | exact e18 | exact e44 _ _ _ (by omega) (by omega) | exact e43 _ _ (by omega)) | (refine dE (by cbv; fail_if_success intros) (by first | exact s16 _ _ (by omega) (by omega) | exact i1 _ _ _ htx (by omega) (by omega) | exact i1 _ _ _ hty (by omega) (by omega) | exact i2 _ _ (by omega) (by omega)) ?_; intro x a1 hx; refine ⟨_, _, _, by cbv, ?_⟩) | (refine diE (by cbv; fail_if_success intros) (by cbv; fail_if_success intros) (by cbv; fail_if_success intros) (by exact hvs _ (by omega) (by omega)) (by omega) ?_; intro v1 hv1))
  all_goals (
    refine finP_ret (by cbv) ?_
    refine ⟨_, _, rfl, Tm.Gd.pk (by omega) ?_⟩
    apply Tm.Gd.mono
    · first
        | exact Tm.Gd.pair (hT.err (by decide)) (And.right (by assumption)) (And.right (by assumption))
        | exact Tm.Gd.lam (htx.err (by decide)) (hT.err (by decide)) (And.right (by assumption))
        | exact Tm.Gd.var hv1.1 hv1.2
    · omega)
theorem call21bF (hR : Has R G c21) (l : List Int) (hl : l.length ≤ 500) (tx ty : Ty) (htx : tx.Sm 1) (hty : ty.Sm 1) (d : Int) (hd : d ≤ 0 ∧ -900 < d) (r : List Ty) (hr : CtxOk 900 r) (a : Int) (ha : 0 ≤ a ∧ a ≤ 500) :
    ∃ (u : Tm) (a' : Int), (Lim R G).call 21 [.ptr 0 0, .pl (.sl 2 (ctxR r)), .st 2 (Ty.enc (Ty.fn tx ty)), .pl (.int .i64 (d))] [dk l a] = some (.st 5 u.enc, [dk l a']) ∧ ((0 ≤ a' ∧ a' ≤ 500) ∧ u.size ≤ 14) ∧ Tm.Gd r (Ty.fn tx ty) 14 u := by
  have hT : ((Ty.fn tx ty)).Sm 3 := Ty.Sm.fn htx hty
  have hE : Ty.enc (Ty.fn tx ty) = [.int .i64 4, .sl 2 [tx.enc, ty.enc]] := by simp [Ty.pair, Ty.fn, Ty.enc, Ty.encs]
  have hr1 := hr.1
  have hxs := htx.sz
  have s16 := call16 (hR.sub (by kernel_rfl)) l hl
  have s41 := call41 (hR.sub (by kernel_rfl)) r (Ty.fn tx ty) (by omega) (fun u hu => by have := (hr.2 u hu).sz; omega) (by have := hT.sz; omega)
  have i1 : ∀ (s : Ty) (z a : Int), s.Sm 1 → z ≤ 0 ∧ -1000 < z → 0 ≤ a ∧ a ≤ 500 → _ := fun s z a h1 h2 h3 => call21b1 (hR.sub (by kernel_rfl)) l hl s h1 z h2 r (hr.mono (by omega)) a h3
  have i2 : ∀ (z a : Int), z ≤ 0 ∧ -1000 < z → 0 ≤ a ∧ a ≤ 500 → _ := fun z a h2 h3 => call21b1 (hR.sub (by kernel_rfl)) l hl ty hty z h2 (tx :: r) ((hr.cons (htx.mono (by omega))).mono (by omega)) a h3
  have e42 : ∀ i : Int, (Lim R G).call 42 [.pl (.int .i64 (i))] [] = some (.st 5 (Tm.enc (Tm.var i)), []) := fun i => call42 (hR.sub (by kernel_rfl)) i
  have e18 : (Lim R G).call 18 [.pl (.sl 2 (ctxR r)), .pl (.sl 2 ([tx.enc]))] [] = some (.pl (.sl 2 (ctxR (tx :: r))), []) := by
    have := call18 (hR.sub (by kernel_rfl)) (ctxR r) [tx.enc] (by rw [ctxR_len]; simp only [List.length_cons, List.length_nil]; omega)
    rwa [← ctxR_cons] at this
  have e44 : ∀ (k : Int) (u v : Tm), u.size ≤ 6 → v.size ≤ 6 → (Lim R G).call 44 [.pl (.int .i64 (k)), .pl (.sl 5 ([u.enc, v.enc]))] [] = some (.st 5 (Tm.n0 k [u, v]).enc, []) := fun k u v h1 h2 => call44s (hR.sub (by kernel_rfl)) k [u, v] (by simp only [Tm.sizes]; omega)
  have e43 : ∀ (k : Int) (u : Tm), u.size ≤ 6 → (Lim R G).call 43 [.pl (.int .i64 (k)), .st 2 tx.enc, .pl (.sl 5 ([u.enc]))] [] = some (.st 5 (Tm.n1 k tx [u]).enc, []) := fun k u h1 => call43s (hR.sub (by kernel_rfl)) k tx [u] (by omega) (by simp only [Tm.sizes]; omega)
  rw [hE] at s41 ⊢
  refine ex2 (call_ofE (hR.at 21 (by kernel_rfl) tab21) (by rfl) ?_)
  unfold dk at *
  generalize (l.map fun n => [PV.int .i64 n]) = rs at *
  generalize ctxR = cx at *
  generalize Tm.enc = te at *
  generalize Ty.enc = ye at *
  repeat' (first | refine uU ?_ | refine uV fun z hz => ?_ | refine uW fun zs hzs => ?_ | refine dq (fun hq => ?_) fun hq => ?_)
  refine dE (by cbv; fail_if_success intros) (by exact s41) ?_
  intro vs _ hvs
  obtain ⟨hvl, hvs⟩ := hvs
  refine ⟨_, _, _, by cbv, ?_⟩
  repeat' (first | refine uU ?_ | refine uV fun z hz => ?_ | refine uW fun zs hzs => ?_ | refine dq (fun hq => ?_) fun hq => ?_ | refine dc ?_ (h2 := by first | exact e42 _ | exact e18 | exact e44 _ _ _ (by omega) (by omega) | exact e43 _ _ (by omega)) | (refine dE (by cbv; fail_if_success intros) (by first | exact s16 _ _ (by omega) (by omega) | exact i1 _ _ _ htx (by omega) (by omega) | exact i1 _ _ _ hty (by omega) (by omega) | exact i2 _ _ (by omega) (by omega)) ?_; intro x a1 hx; refine ⟨_, _, _, by cbv, ?_⟩) | (refine diE (by cbv; fail_if_success intros) (by cbv; fail_if_success intros) (by cbv; fail_if_success intros) (by exact hvs _ (by omega) (by omega)) (by omega) ?_; intro v1 hv1))
  all_goals (
    refine finP_ret (by cbv) ?_
    refine ⟨_, _, rfl, Tm.Gd.pk (by omega) ?_⟩
    apply Tm.Gd.mono
    · first
        | exact Tm.Gd.pair (hT.err (by decide)) (And.right (by assumption)) (And.right (by assumption))
        | exact Tm.Gd.lam (htx.err (by decide)) (hT.err (by decide)) (And.right (by assumption))
        | exact Tm.Gd.var hv1.1 hv1.2
    · omega)
theorem call21z (hR : Has R G c21) (l : List Int) (hl : l.length ≤ 500) (t : Ty) (ht : t.Sm 3) (d : Int) (hd : d ≤ 0 ∧ -900 < d) (r : List Ty) (hr : CtxOk 900 r) (a : Int) (ha : 0 ≤ a ∧ a ≤ 500) :
    ∃ (u : Tm) (a' : Int), (Lim R G).call 21 [.ptr 0 0, .pl (.sl 2 (ctxR r)), .st 2 (Ty.enc t), .pl (.int .i64 (d))] [dk l a] = some (.st 5 u.enc, [dk l a']) ∧ ((0 ≤ a' ∧ a' ≤ 500) ∧ u.size ≤ 14) ∧ Tm.Gd r t 14 u := by
  have h1 : ∀ t : Ty, t.Sm 1 → ∃ (u : Tm) (a' : Int), (Lim R G).call 21 [.ptr 0 0, .pl (.sl 2 (ctxR r)), .st 2 (Ty.enc t), .pl (.int .i64 (d))] [dk l a] = some (.st 5 u.enc, [dk l a']) ∧ ((0 ≤ a' ∧ a' ≤ 500) ∧ u.size ≤ 14) ∧ Tm.Gd r t 14 u := fun t ht => by
    obtain ⟨u, a', h1, h2, h3⟩ := call21b1 (hR.sub (by kernel_rfl)) l hl t ht d (by omega) r (hr.mono (by omega)) a ha
    exact ⟨u, a', h1, ⟨h2.1, by omega⟩, h3.mono (by omega)⟩
  rcases Ty.size3 ht with rfl | rfl | rfl | ⟨x, y, hx, hy, rfl⟩ | ⟨x, y, hx, hy, rfl⟩
  · exact h1 _ (.nat (by decide))
  · exact h1 _ (.list (by decide))
  · exact h1 _ (.unit (by decide))
  · exact call21bP (hR.sub (by kernel_rfl)) l hl x y hx hy d hd r hr a ha
  · exact call21bF (hR.sub (by kernel_rfl)) l hl x y hx hy d hd r hr a ha
def TmSp (R : RProg) (G : Nat → AV) (l : List Int) (n b m : Nat) : Prop := ∀ (t : Ty) (d : Int) (r : List Ty) (a : Int), t.Sm 3 → d ≤ n ∧ -800 < d → CtxOk b r → 0 ≤ a ∧ a ≤ 500 →
  ∃ (u : Tm) (a' : Int), (Lim R G).call 21 [.ptr 0 0, .pl (.sl 2 (ctxR r)), .st 2 (Ty.enc t), .pl (.int .i64 (d))] [dk l a] = some (.st 5 u.enc, [dk l a']) ∧ ((0 ≤ a' ∧ a' ≤ 500) ∧ u.size ≤ m) ∧ Tm.Gd r t m u
end
end Eng

