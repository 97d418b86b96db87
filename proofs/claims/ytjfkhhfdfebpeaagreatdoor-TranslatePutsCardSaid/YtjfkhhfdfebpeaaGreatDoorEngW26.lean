/- Making: terms, at any depth (F). -/
import Derived.Test.YtjfkhhfdfebpeaaGreatDoorEngT
import Derived.Test.YtjfkhhfdfebpeaaGreatDoorEngTab
import Derived.Test.YtjfkhhfdfebpeaaGreatDoorEngW18
import Derived.Test.YtjfkhhfdfebpeaaGreatDoorEngW19
import Derived.Test.YtjfkhhfdfebpeaaGreatDoorEngW2
import Derived.Test.YtjfkhhfdfebpeaaGreatDoorEngW20
import Derived.Test.YtjfkhhfdfebpeaaGreatDoorEngW21
import Derived.Test.YtjfkhhfdfebpeaaGreatDoorEngW5
import Derived.Test.YtjfkhhfdfebpeaaGreatDoorEngZ
set_option linter.all false
set_option linter.unusedVariables false
set_option linter.unusedSimpArgs false
set_option maxRecDepth 100000
set_option maxHeartbeats 20000000
namespace Eng
open Go
section
variable {R : RProg} {G : Nat → AV}
theorem call21sF (hR : Has R G c21) (l : List Int) (hl : l.length ≤ 500) (n b m : Nat) (hm : 14 ≤ m ∧ m < 2 ^ 20) (hb : b < 500) (ih : TmSp R G l n (b + 3) m) (tx ty : Ty) (htx : tx.Sm 1) (hty : ty.Sm 1) (d : Int) (hd : 0 < d ∧ d ≤ n + 1) (hn : n < 100) (r : List Ty) (hr : CtxOk b r) (a : Int) (ha : 0 ≤ a ∧ a ≤ 500) :
    ∃ (u : Tm) (a' : Int), (Lim R G).call 21 [.ptr 0 0, .pl (.sl 2 (ctxR r)), .st 2 (Ty.enc (Ty.fn tx ty)), .pl (.int .i64 (d))] [dk l a] = some (.st 5 u.enc, [dk l a']) ∧ ((0 ≤ a' ∧ a' ≤ 500) ∧ u.size ≤ 3 * m + 150) ∧ Tm.Gd r (Ty.fn tx ty) (3 * m + 150) u := by
  have hT : ((Ty.fn tx ty)).Sm 3 := Ty.Sm.fn htx hty
  have hE : Ty.enc (Ty.fn tx ty) = [.int .i64 4, .sl 2 [tx.enc, ty.enc]] := by simp [Ty.fn, Ty.enc, Ty.encs]
  have hr1 := hr.1
  have hTs := hT.sz
  have s16 := call16 (hR.sub (by kernel_rfl)) l hl
  have s17 : ∀ a : Int, 0 ≤ a ∧ a ≤ 500 → ∃ (t : Ty) (a' : Int), (Lim R G).call 17 [.ptr 0 0, .pl (.int .i64 (0))] [dk l a] = some (.st 2 t.enc, [dk l a']) ∧ ((0 ≤ a' ∧ a' ≤ 500) ∧ t.size ≤ 1) ∧ t.Sm 1 := fun a h => by
    obtain ⟨t, a', h1, h2, h3⟩ := call17 (hR.sub (by kernel_rfl)) l hl 0 0 a rfl (by omega) h
    exact ⟨t, a', h1, ⟨h2, h3.sz⟩, h3⟩
  have s41 := call41 (hR.sub (by kernel_rfl)) r (Ty.fn tx ty) (by omega) (fun u hu => by have := (hr.2 u hu).sz; omega) (by omega)
  have i1 : ∀ (z a : Int), z = d - 1 → 0 ≤ a ∧ a ≤ 500 → _ := fun z a h1 h2 => ih (Ty.fn tx ty) z r a hT (by omega) (hr.mono (by omega)) h2
  have i2 : ∀ (s : Ty) (z a : Int), s.Sm 1 → z = d - 1 → 0 ≤ a ∧ a ≤ 500 → _ := fun s z a hs h1 h2 => ih s z r a (hs.mono (by omega)) (by omega) (hr.mono (by omega)) h2
  have i3 : ∀ (s : Ty) (z a : Int), s.Sm 1 → z = d - 1 → 0 ≤ a ∧ a ≤ 500 → _ := fun s z a hs h1 h2 => ih (Ty.fn tx ty) z (s :: r) a hT (by omega) ((hr.cons (hs.mono (by omega))).mono (by omega)) h2
  have i4 : ∀ (z a : Int), z = d - 1 → 0 ≤ a ∧ a ≤ 500 → _ := fun z a h1 h2 => ih (Ty.fn tx ty) z ((Ty.fn tx ty) :: .nat :: r) a hT (by omega) (((hr.cons (.nat (by decide))).cons hT).mono (by omega)) h2
  have i5 : ∀ (z a : Int), z = d - 1 → 0 ≤ a ∧ a ≤ 500 → _ := fun z a h1 h2 => ih (Ty.fn tx ty) z ((Ty.fn tx ty) :: .list :: .nat :: r) a hT (by omega) ((((hr.cons (.nat (by decide))).cons (.list (by decide))).cons hT).mono (by omega)) h2
  have e20 := call20 (hR.sub (by kernel_rfl))
  have e36 := call36 (hR.sub (by kernel_rfl))
  rw [show Ty.mk 1 [] = Ty.nat from rfl] at e20
  rw [show Ty.mk 2 [] = Ty.list from rfl] at e36
  have e42 : ∀ i : Int, (Lim R G).call 42 [.pl (.int .i64 (i))] [] = some (.st 5 (Tm.enc (Tm.var i)), []) := fun i => call42 (hR.sub (by kernel_rfl)) i
  have e12 : ∀ v : Int, 0 ≤ v → v < 4096 → (Lim R G).call 12 [.pl (.int .i64 (v))] [] = some (.st 5 (Tm.numl v.toNat).enc, []) := fun v h1 h2 => by
    have := call12 (hR.sub (by kernel_rfl)) v.toNat (by omega)
    rwa [show ((v.toNat : Nat) : Int) = v by omega] at this
  have e18 : ∀ s : Ty, (Lim R G).call 18 [.pl (.sl 2 (ctxR r)), .pl (.sl 2 ([s.enc]))] [] = some (.pl (.sl 2 (ctxR (s :: r))), []) := fun s => by
    have := call18 (hR.sub (by kernel_rfl)) (ctxR r) [s.enc] (by rw [ctxR_len]; simp only [List.length_cons, List.length_nil]; omega)
    rwa [← ctxR_cons] at this
  have e18b : (Lim R G).call 18 [.pl (.sl 2 (ctxR r)), .pl (.sl 2 ([Ty.nat.enc, Ty.enc (Ty.fn tx ty)]))] [] = some (.pl (.sl 2 (ctxR ((Ty.fn tx ty) :: .nat :: r))), []) := by
    have := call18 (hR.sub (by kernel_rfl)) (ctxR r) [Ty.nat.enc, Ty.enc (Ty.fn tx ty)] (by rw [ctxR_len]; simp only [List.length_cons, List.length_nil]; omega)
    rwa [show ctxR r ++ [Ty.nat.enc, Ty.enc (Ty.fn tx ty)] = ctxR r ++ [Ty.nat.enc] ++ [Ty.enc (Ty.fn tx ty)] by simp, ← ctxR_cons, ← ctxR_cons] at this
  have e18c : (Lim R G).call 18 [.pl (.sl 2 (ctxR r)), .pl (.sl 2 ([Ty.nat.enc, Ty.list.enc, Ty.enc (Ty.fn tx ty)]))] [] = some (.pl (.sl 2 (ctxR ((Ty.fn tx ty) :: .list :: .nat :: r))), []) := by
    have := call18 (hR.sub (by kernel_rfl)) (ctxR r) [Ty.nat.enc, Ty.list.enc, Ty.enc (Ty.fn tx ty)] (by rw [ctxR_len]; simp only [List.length_cons, List.length_nil]; omega)
    rwa [show ctxR r ++ [Ty.nat.enc, Ty.list.enc, Ty.enc (Ty.fn tx ty)] = ctxR r ++ [Ty.nat.enc] ++ [Ty.list.enc] ++ [Ty.enc (Ty.fn tx ty)] by simp, ← ctxR_cons, ← ctxR_cons, ← ctxR_cons] at this
  have e44z := fun k => call44z (hR.sub (by kernel_rfl)) k
  have e44a : ∀ (k : Int) (u : Tm), u.size < 2 ^ 28 → (Lim R G).call 44 [.pl (.int .i64 (k)), .pl (.sl 5 ([u.enc]))] [] = some (.st 5 (Tm.n0 k [u]).enc, []) := fun k u h1 => call44s (hR.sub (by kernel_rfl)) k [u] (by simp only [Tm.sizes]; omega)
  have e44b : ∀ (k : Int) (u v : Tm), u.size < 2 ^ 28 → v.size < 2 ^ 28 → (Lim R G).call 44 [.pl (.int .i64 (k)), .pl (.sl 5 ([u.enc, v.enc]))] [] = some (.st 5 (Tm.n0 k [u, v]).enc, []) := fun k u v h1 h2 => call44s (hR.sub (by kernel_rfl)) k [u, v] (by simp only [Tm.sizes]; omega)
  have e43a : ∀ (k : Int) (s : Ty) (u : Tm), s.size < 2 ^ 28 → u.size < 2 ^ 28 → (Lim R G).call 43 [.pl (.int .i64 (k)), .st 2 s.enc, .pl (.sl 5 ([u.enc]))] [] = some (.st 5 (Tm.n1 k s [u]).enc, []) := fun k s u h h1 => call43s (hR.sub (by kernel_rfl)) k s [u] (by omega) (by simp only [Tm.sizes]; omega)
  have e43t : ∀ (k : Int) (u : Tm), u.size < 2 ^ 28 → (Lim R G).call 43 [.pl (.int .i64 (k)), .st 2 (Ty.enc (Ty.fn tx ty)), .pl (.sl 5 ([u.enc]))] [] = some (.st 5 (Tm.n1 k (Ty.fn tx ty) [u]).enc, []) := fun k u h1 => call43s (hR.sub (by kernel_rfl)) k (Ty.fn tx ty) [u] (by omega) (by simp only [Tm.sizes]; omega)
  have e43c : ∀ (k : Int) (u v w : Tm), u.size < 2 ^ 28 → v.size < 2 ^ 28 → w.size < 2 ^ 28 → (Lim R G).call 43 [.pl (.int .i64 (k)), .st 2 (Ty.enc (Ty.fn tx ty)), .pl (.sl 5 ([u.enc, v.enc, w.enc]))] [] = some (.st 5 (Tm.n1 k (Ty.fn tx ty) [u, v, w]).enc, []) := fun k u v w h1 h2 h3 => call43s (hR.sub (by kernel_rfl)) k (Ty.fn tx ty) [u, v, w] (by omega) (by simp only [Tm.sizes]; omega)
  have e45 := call45 (hR.sub (by kernel_rfl))
  have e47 := call47 (hR.sub (by kernel_rfl))
  have e46 : ∀ (f u v : Tm), f.size < 2 ^ 28 → u.size < 2 ^ 28 → v.size < 2 ^ 28 → (Lim R G).call 46 [.st 5 f.enc, .pl (.sl 5 ([u.enc, v.enc]))] [] = some (.st 5 (Tm.n0 3 [Tm.n0 3 [f, u], v]).enc, []) := fun f u v h1 h2 h3 => call46 (hR.sub (by kernel_rfl)) f [u, v] (by simp only [Tm.sizes, List.length_cons, List.length_nil]; omega)
  have hps := Tm.plus_size
  have hss := Tm.sub_size
  have hg := fun z n => @ctxR_get r z n
  have hcl := ctxR_len r
  have e29 : ∀ f : Ty, f ∈ r → ∀ x y, f = .fn x y → (Lim R G).call 29 [.st 2 y.enc, .st 2 (Ty.enc (Ty.fn tx ty))] [] = some (.pl (.bool (y.same (Ty.fn tx ty))), []) := fun f hf x y hxy => by
    have h1 := (hr.2 f hf).sz
    rw [hxy] at h1
    simp only [Ty.fn, Ty.size, Ty.sizes] at h1
    exact call29 (hR.sub (by kernel_rfl)) y (Ty.fn tx ty) (by omega) (by omega)
  have hF := Ty.enc_shape
  have htxs := htx.sz
  have htys := hty.sz
  have i6 : ∀ (z a : Int), z = d - 1 → 0 ≤ a ∧ a ≤ 500 → _ := fun z a h1 h2 => ih ty z (tx :: r) a (hty.mono (by omega)) (by omega) ((hr.cons (htx.mono (by omega))).mono (by omega)) h2
  have hz1 := Ty.nat_size
  have hz2 := Ty.list_size
  rw [hE] at  s41 e18b e18c e43t e43c e29 i1 i3 i4 i5 ⊢
  clear ih
  refine ex2 (call_ofE (hR.at 21 (by kernel_rfl) tab21) (by rfl) ?_)
  unfold dk at *
  generalize (l.map fun n => [PV.int .i64 n]) = rs at *
  generalize ctxR = cx at *
  generalize Tm.enc = te at *
  generalize Ty.enc = ye at *
  repeat' (first | refine uU ?_ | refine uV fun z hz => ?_ | refine uW fun zs hzs => ?_ | refine dq (fun hq => ?_) fun hq => ?_)
  refine dE (by cbv; fail_if_success intros) (by exact s41) ?_
  intro vs _ hvs
  obtain ⟨hvl, hvs⟩ := hvs
  refine ⟨_, _, _, by cbv, ?_⟩
  repeat' (first | refine uU ?_ | refine uV fun z hz => ?_ | refine uW fun zs hzs => ?_ | refine dq (fun hq => ?_) fun hq => ?_ | refine dc ?_ (h2 := by first | exact e42 _ | exact e12 _ (by omega) (by omega) | exact e18 _ | exact e18b | exact e18c | exact e44z _ | exact e44a _ _ (by first | omega | (simp only [Tm.n0_size, Tm.n1_size, Tm.var_size, Tm.sizes, Tm.numl_size, Ty.nat_size, Ty.list_size]; omega)) | exact e44b _ _ _ (by first | omega | (simp only [Tm.n0_size, Tm.n1_size, Tm.var_size, Tm.sizes, Tm.numl_size, Ty.nat_size, Ty.list_size]; omega)) (by first | omega | (simp only [Tm.n0_size, Tm.n1_size, Tm.var_size, Tm.sizes, Tm.numl_size, Ty.nat_size, Ty.list_size]; omega)) | exact e43t _ _ (by first | omega | (simp only [Tm.n0_size, Tm.n1_size, Tm.var_size, Tm.sizes, Tm.numl_size, Ty.nat_size, Ty.list_size]; omega)) | exact e43c _ _ _ _ (by first | omega | (simp only [Tm.n0_size, Tm.n1_size, Tm.var_size, Tm.sizes, Tm.numl_size, Ty.nat_size, Ty.list_size]; omega)) (by first | omega | (simp only [Tm.n0_size, Tm.n1_size, Tm.var_size, Tm.sizes, Tm.numl_size, Ty.nat_size, Ty.list_size]; omega)) (by first | omega | (simp only [Tm.n0_size, Tm.n1_size, Tm.var_size, Tm.sizes, Tm.numl_size, Ty.nat_size, Ty.list_size]; omega)) | exact e43a _ _ _ (by first | omega | decide) (by first | omega | (simp only [Tm.n0_size, Tm.n1_size, Tm.var_size, Tm.sizes, Tm.numl_size, Ty.nat_size, Ty.list_size]; omega)) | exact e46 _ _ _ (by first | omega | (simp only [Tm.n0_size, Tm.n1_size, Tm.var_size, Tm.sizes, Tm.numl_size, Ty.nat_size, Ty.list_size]; omega)) (by first | omega | (simp only [Tm.n0_size, Tm.n1_size, Tm.var_size, Tm.sizes, Tm.numl_size, Ty.nat_size, Ty.list_size]; omega)) (by first | omega | (simp only [Tm.n0_size, Tm.n1_size, Tm.var_size, Tm.sizes, Tm.numl_size, Ty.nat_size, Ty.list_size]; omega))) | (refine dE (by cbv; fail_if_success intros) (by first | exact s16 _ _ (by omega) (by omega) | exact s17 _ (by omega) | exact i1 _ _ (by omega) (by omega) | exact i2 _ _ _ (by first | exact And.right (by assumption) | exact Ty.Sm.nat (by decide) | exact Ty.Sm.list (by decide) | assumption) (by omega) (by omega) | exact i3 _ _ _ (by first | exact And.right (by assumption) | exact Ty.Sm.nat (by decide) | exact Ty.Sm.list (by decide) | assumption) (by omega) (by omega) | exact i4 _ _ (by omega) (by omega) | exact i5 _ _ (by omega) (by omega) | exact i6 _ _ (by omega) (by omega)) ?_; intro x a1 hx; refine ⟨_, _, _, by cbv, ?_⟩) | (refine diE (by cbv; fail_if_success intros) (by cbv; fail_if_success intros) (by cbv; fail_if_success intros) (by exact hvs _ (by omega) (by omega)) (by omega) ?_; intro v1 hv1))
  all_goals first
    | (
      refine finP_ret (by cbv) ?_
      refine ⟨_, _, rfl, Tm.Gd.pk (by omega) ?_⟩
      apply Tm.Gd.mono
      · repeat' first
          | exact And.right (by assumption)
          | exact Tm.Gd.numl _
          | exact Tm.Gd.nil
          | exact Tm.Gd.unit
          | exact Tm.Gd.plus
          | exact Tm.Gd.sub
          | exact Tm.Gd.var hv1.1 hv1.2
          | exact Tm.Gd.var hj.1 hf1
          | exact hT.err (by decide)
          | exact Ty.Sm.err (And.right (by assumption)) (by decide)
          | exact Ty.Sm.err (n := 1) (by assumption) (by decide)
          | exact (Ty.Sm.fn (Ty.Sm.nat (n := 1) (by decide)) (Ty.Sm.fn hT hT)).err (by decide)
          | exact (Ty.Sm.fn (Ty.Sm.nat (n := 1) (by decide)) (Ty.Sm.fn (Ty.Sm.list (n := 1) (by decide)) (Ty.Sm.fn hT hT))).err (by decide)
          | exact (Ty.Sm.fn (Ty.Sm.list (n := 1) (by decide)) (Ty.Sm.fn hT hT)).err (by decide)
          | exact (Ty.Sm.fn hT hT).err (by decide)
          | exact (Ty.Sm.fn (n := 1) (And.right (by assumption)) hT).err (by decide)
          | exact Ty.Sm.err (Ty.Sm.nat (n := 1) (by decide)) (by decide)
          | exact Ty.Sm.err (Ty.Sm.list (n := 1) (by decide)) (by decide)
          | exact Ty.Sm.err (Ty.Sm.pair (n := 3) (m := 1) hT (And.right (by assumption))) (by decide)
          | exact Ty.Sm.err (Ty.Sm.pair (n := 1) (m := 3) (And.right (by assumption)) hT) (by decide)
          | exact Ty.Sm.err (Ty.Sm.pair (n := 1) (m := 1) (by assumption) (by assumption)) (by decide)
          | apply Tm.Gd.snd
          | apply Tm.Gd.recn
          | apply Tm.Gd.fold
          | apply Tm.Gd.fst
          | apply Tm.Gd.app
          | apply Tm.Gd.succ
          | apply Tm.Gd.cons
          | apply Tm.Gd.pair'
          | apply Tm.Gd.lam
      · omega
      )
    | skip
  all_goals (
    refine wploop (σ := Int) (fun x => [(177, .pl (.int .i64 (x)))]) (fun _ => []) (fun x => 0 ≤ x ∧ x ≤ r.length) (fun x => r.length - x.toNat) 0 (by cbv) ⟨by omega, by omega⟩ (by cbv) ?_
    rintro j hj
    refine wp_at (by cbv) ?_
    by_cases hj2 : j < r.length
    · obtain ⟨f, hf1, hf2, hf3⟩ := hg (r.length - 1 - j) j.toNat (by omega) (by omega)
      rcases hF f (hr.2 f hf2) with ⟨fx, fy, hfx, hfy, hf, hE1⟩ | ⟨k, rows, hE1, hk⟩
      · have e29g := e29 f hf2 fx fy hf
        rw [hE1] at hf3
        have hsame := @Ty.same_iff fy (Ty.fn tx ty)
        have hfxs := hfx.sz
        generalize fy.same (Ty.fn tx ty) = sm at e29g hsame
        cases sm with
        | false =>
          repeat' (first | refine uU ?_ | refine uV fun z hz => ?_ | refine uW fun zs hzs => ?_ | refine dq (fun hq => ?_) fun hq => ?_)
          refine di (row := [.int .i64 4, .sl 2 [ye fx, ye fy]]) ?_ (hr := by rw [← hf3]; congr 2; omega)
          repeat' (first | refine uU ?_ | refine uV fun z hz => ?_ | refine uW fun zs hzs => ?_ | refine dq (fun hq => ?_) fun hq => ?_)
          exact again_normal z ⟨by omega, by omega⟩ (by omega) (by cbv)
        | true =>
          replace hf1 : r[j.toNat]? = some (.fn fx (Ty.fn tx ty)) := by rw [hf1, hf, hsame.1 rfl]
          repeat' (first | refine uU ?_ | refine uV fun z hz => ?_ | refine uW fun zs hzs => ?_ | refine dq (fun hq => ?_) fun hq => ?_)
          refine di (row := [.int .i64 4, .sl 2 [ye fx, ye fy]]) ?_ (hr := by rw [← hf3]; congr 2; omega)
          repeat' (first | refine uU ?_ | refine uV fun z hz => ?_ | refine uW fun zs hzs => ?_ | refine dq (fun hq => ?_) fun hq => ?_ | refine dc ?_ (h2 := by first | exact e42 _ | exact e12 _ (by omega) (by omega) | exact e18 _ | exact e18b | exact e18c | exact e44z _ | exact e44a _ _ (by first | omega | (simp only [Tm.n0_size, Tm.n1_size, Tm.var_size, Tm.sizes, Tm.numl_size, Ty.nat_size, Ty.list_size]; omega)) | exact e44b _ _ _ (by first | omega | (simp only [Tm.n0_size, Tm.n1_size, Tm.var_size, Tm.sizes, Tm.numl_size, Ty.nat_size, Ty.list_size]; omega)) (by first | omega | (simp only [Tm.n0_size, Tm.n1_size, Tm.var_size, Tm.sizes, Tm.numl_size, Ty.nat_size, Ty.list_size]; omega)) | exact e43t _ _ (by first | omega | (simp only [Tm.n0_size, Tm.n1_size, Tm.var_size, Tm.sizes, Tm.numl_size, Ty.nat_size, Ty.list_size]; omega)) | exact e43c _ _ _ _ (by first | omega | (simp only [Tm.n0_size, Tm.n1_size, Tm.var_size, Tm.sizes, Tm.numl_size, Ty.nat_size, Ty.list_size]; omega)) (by first | omega | (simp only [Tm.n0_size, Tm.n1_size, Tm.var_size, Tm.sizes, Tm.numl_size, Ty.nat_size, Ty.list_size]; omega)) (by first | omega | (simp only [Tm.n0_size, Tm.n1_size, Tm.var_size, Tm.sizes, Tm.numl_size, Ty.nat_size, Ty.list_size]; omega)) | exact e43a _ _ _ (by first | omega | decide) (by first | omega | (simp only [Tm.n0_size, Tm.n1_size, Tm.var_size, Tm.sizes, Tm.numl_size, Ty.nat_size, Ty.list_size]; omega)) | exact e46 _ _ _ (by first | omega | (simp only [Tm.n0_size, Tm.n1_size, Tm.var_size, Tm.sizes, Tm.numl_size, Ty.nat_size, Ty.list_size]; omega)) (by first | omega | (simp only [Tm.n0_size, Tm.n1_size, Tm.var_size, Tm.sizes, Tm.numl_size, Ty.nat_size, Ty.list_size]; omega)) (by first | omega | (simp only [Tm.n0_size, Tm.n1_size, Tm.var_size, Tm.sizes, Tm.numl_size, Ty.nat_size, Ty.list_size]; omega))) | (refine dE (by cbv; fail_if_success intros) (by first | exact s16 _ _ (by omega) (by omega) | exact s17 _ (by omega) | exact i1 _ _ (by omega) (by omega) | exact i2 _ _ _ (by first | exact And.right (by assumption) | exact Ty.Sm.nat (by decide) | exact Ty.Sm.list (by decide) | assumption) (by omega) (by omega) | exact i3 _ _ _ (by first | exact And.right (by assumption) | exact Ty.Sm.nat (by decide) | exact Ty.Sm.list (by decide) | assumption) (by omega) (by omega) | exact i4 _ _ (by omega) (by omega) | exact i5 _ _ (by omega) (by omega) | exact i6 _ _ (by omega) (by omega)) ?_; intro x a1 hx; refine ⟨_, _, _, by cbv, ?_⟩) | (refine diE (by cbv; fail_if_success intros) (by cbv; fail_if_success intros) (by cbv; fail_if_success intros) (by exact hvs _ (by omega) (by omega)) (by omega) ?_; intro v1 hv1))
          refine finP_ret (by cbv) ?_
          refine ⟨_, _, rfl, Tm.Gd.pk (by omega) ?_⟩
          apply Tm.Gd.mono
          · repeat' first
              | exact And.right (by assumption)
              | exact Tm.Gd.numl _
              | exact Tm.Gd.nil
              | exact Tm.Gd.unit
              | exact Tm.Gd.plus
              | exact Tm.Gd.sub
              | exact Tm.Gd.var hv1.1 hv1.2
              | exact Tm.Gd.var hj.1 hf1
              | exact hT.err (by decide)
              | exact Ty.Sm.err (And.right (by assumption)) (by decide)
              | exact Ty.Sm.err (n := 1) (by assumption) (by decide)
              | exact (Ty.Sm.fn (Ty.Sm.nat (n := 1) (by decide)) (Ty.Sm.fn hT hT)).err (by decide)
              | exact (Ty.Sm.fn (Ty.Sm.nat (n := 1) (by decide)) (Ty.Sm.fn (Ty.Sm.list (n := 1) (by decide)) (Ty.Sm.fn hT hT))).err (by decide)
              | exact (Ty.Sm.fn (Ty.Sm.list (n := 1) (by decide)) (Ty.Sm.fn hT hT)).err (by decide)
              | exact (Ty.Sm.fn hT hT).err (by decide)
              | exact (Ty.Sm.fn (n := 1) (And.right (by assumption)) hT).err (by decide)
              | exact Ty.Sm.err (Ty.Sm.nat (n := 1) (by decide)) (by decide)
              | exact Ty.Sm.err (Ty.Sm.list (n := 1) (by decide)) (by decide)
              | exact Ty.Sm.err (Ty.Sm.pair (n := 3) (m := 1) hT (And.right (by assumption))) (by decide)
              | exact Ty.Sm.err (Ty.Sm.pair (n := 1) (m := 3) (And.right (by assumption)) hT) (by decide)
              | exact Ty.Sm.err (Ty.Sm.pair (n := 1) (m := 1) (by assumption) (by assumption)) (by decide)
              | apply Tm.Gd.snd
              | apply Tm.Gd.recn
              | apply Tm.Gd.fold
              | apply Tm.Gd.fst
              | apply Tm.Gd.app
              | apply Tm.Gd.succ
              | apply Tm.Gd.cons
              | apply Tm.Gd.pair'
              | apply Tm.Gd.lam
          · omega
      · rw [hE1] at hf3
        repeat' (first | refine uU ?_ | refine uV fun z hz => ?_ | refine uW fun zs hzs => ?_ | refine dq (fun hq => ?_) fun hq => ?_)
        refine di (row := [.int .i64 k, .sl 2 rows]) ?_ (hr := by rw [← hf3]; congr 2; omega)
        repeat' (first | refine uU ?_ | refine uV fun z hz => ?_ | refine uW fun zs hzs => ?_ | refine dq (fun hq => ?_) fun hq => ?_)
        exact again_normal z ⟨by omega, by omega⟩ (by omega) (by cbv)
    · repeat' (first | refine uU ?_ | refine uV fun z hz => ?_ | refine uW fun zs hzs => ?_ | refine dq (fun hq => ?_) fun hq => ?_ | refine dc ?_ (h2 := by first | exact e42 _ | exact e12 _ (by omega) (by omega) | exact e18 _ | exact e18b | exact e18c | exact e44z _ | exact e44a _ _ (by first | omega | (simp only [Tm.n0_size, Tm.n1_size, Tm.var_size, Tm.sizes, Tm.numl_size, Ty.nat_size, Ty.list_size]; omega)) | exact e44b _ _ _ (by first | omega | (simp only [Tm.n0_size, Tm.n1_size, Tm.var_size, Tm.sizes, Tm.numl_size, Ty.nat_size, Ty.list_size]; omega)) (by first | omega | (simp only [Tm.n0_size, Tm.n1_size, Tm.var_size, Tm.sizes, Tm.numl_size, Ty.nat_size, Ty.list_size]; omega)) | exact e43t _ _ (by first | omega | (simp only [Tm.n0_size, Tm.n1_size, Tm.var_size, Tm.sizes, Tm.numl_size, Ty.nat_size, Ty.list_size]; omega)) | exact e43c _ _ _ _ (by first | omega | (simp only [Tm.n0_size, Tm.n1_size, Tm.var_size, Tm.sizes, Tm.numl_size, Ty.nat_size, Ty.list_size]; omega)) (by first | omega | (simp only [Tm.n0_size, Tm.n1_size, Tm.var_size, Tm.sizes, Tm.numl_size, Ty.nat_size, Ty.list_size]; omega)) (by first | omega | (simp only [Tm.n0_size, Tm.n1_size, Tm.var_size, Tm.sizes, Tm.numl_size, Ty.nat_size, Ty.list_size]; omega)) | exact e43a _ _ _ (by first | omega | decide) (by first | omega | (simp only [Tm.n0_size, Tm.n1_size, Tm.var_size, Tm.sizes, Tm.numl_size, Ty.nat_size, Ty.list_size]; omega)) | exact e46 _ _ _ (by first | omega | (simp only [Tm.n0_size, Tm.n1_size, Tm.var_size, Tm.sizes, Tm.numl_size, Ty.nat_size, Ty.list_size]; omega)) (by first | omega | (simp only [Tm.n0_size, Tm.n1_size, Tm.var_size, Tm.sizes, Tm.numl_size, Ty.nat_size, Ty.list_size]; omega)) (by first | omega | (simp only [Tm.n0_size, Tm.n1_size, Tm.var_size, Tm.sizes, Tm.numl_size, Ty.nat_size, Ty.list_size]; omega))) | (refine dE (by cbv; fail_if_success intros) (by first | exact s16 _ _ (by omega) (by omega) | exact s17 _ (by omega) | exact i1 _ _ (by omega) (by omega) | exact i2 _ _ _ (by first | exact And.right (by assumption) | exact Ty.Sm.nat (by decide) | exact Ty.Sm.list (by decide) | assumption) (by omega) (by omega) | exact i3 _ _ _ (by first | exact And.right (by assumption) | exact Ty.Sm.nat (by decide) | exact Ty.Sm.list (by decide) | assumption) (by omega) (by omega) | exact i4 _ _ (by omega) (by omega) | exact i5 _ _ (by omega) (by omega) | exact i6 _ _ (by omega) (by omega)) ?_; intro x a1 hx; refine ⟨_, _, _, by cbv, ?_⟩) | (refine diE (by cbv; fail_if_success intros) (by cbv; fail_if_success intros) (by cbv; fail_if_success intros) (by exact hvs _ (by omega) (by omega)) (by omega) ?_; intro v1 hv1))
      all_goals (
        refine finP_ret (by cbv) ?_
        refine ⟨_, _, rfl, Tm.Gd.pk (by omega) ?_⟩
        apply Tm.Gd.mono
        · repeat' first
            | exact And.right (by assumption)
            | exact Tm.Gd.numl _
            | exact Tm.Gd.nil
            | exact Tm.Gd.unit
            | exact Tm.Gd.plus
            | exact Tm.Gd.sub
            | exact Tm.Gd.var hv1.1 hv1.2
            | exact Tm.Gd.var hj.1 hf1
            | exact hT.err (by decide)
            | exact Ty.Sm.err (And.right (by assumption)) (by decide)
            | exact Ty.Sm.err (n := 1) (by assumption) (by decide)
            | exact (Ty.Sm.fn (Ty.Sm.nat (n := 1) (by decide)) (Ty.Sm.fn hT hT)).err (by decide)
            | exact (Ty.Sm.fn (Ty.Sm.nat (n := 1) (by decide)) (Ty.Sm.fn (Ty.Sm.list (n := 1) (by decide)) (Ty.Sm.fn hT hT))).err (by decide)
            | exact (Ty.Sm.fn (Ty.Sm.list (n := 1) (by decide)) (Ty.Sm.fn hT hT)).err (by decide)
            | exact (Ty.Sm.fn hT hT).err (by decide)
            | exact (Ty.Sm.fn (n := 1) (And.right (by assumption)) hT).err (by decide)
            | exact Ty.Sm.err (Ty.Sm.nat (n := 1) (by decide)) (by decide)
            | exact Ty.Sm.err (Ty.Sm.list (n := 1) (by decide)) (by decide)
            | exact Ty.Sm.err (Ty.Sm.pair (n := 3) (m := 1) hT (And.right (by assumption))) (by decide)
            | exact Ty.Sm.err (Ty.Sm.pair (n := 1) (m := 3) (And.right (by assumption)) hT) (by decide)
            | exact Ty.Sm.err (Ty.Sm.pair (n := 1) (m := 1) (by assumption) (by assumption)) (by decide)
            | apply Tm.Gd.snd
            | apply Tm.Gd.recn
            | apply Tm.Gd.fold
            | apply Tm.Gd.fst
            | apply Tm.Gd.app
            | apply Tm.Gd.succ
            | apply Tm.Gd.cons
            | apply Tm.Gd.pair'
            | apply Tm.Gd.lam
        · omega
        )
    )
end
end Eng

