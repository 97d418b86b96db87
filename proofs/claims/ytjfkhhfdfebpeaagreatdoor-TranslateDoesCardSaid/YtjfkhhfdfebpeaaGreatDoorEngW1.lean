/- Counting. -/
import Derived.Test.YtjfkhhfdfebpeaaGreatDoorEngT
import Derived.Test.YtjfkhhfdfebpeaaGreatDoorEngTab
set_option linter.all false
set_option linter.unusedVariables false
set_option linter.unusedSimpArgs false
set_option maxRecDepth 100000
set_option maxHeartbeats 4000000
namespace Eng
open Go
section
variable {R : RProg} {G : Nat → AV}
theorem call33 (hR : Has R G c33) : ∀ (t : Ty) (most : Int), t.wf → -2^40 < most ∧ most < 2^40 → (Lim R G).call 33 [.st 2 t.enc, .pl (.int .i64 most)] [] = some (.pl (.int .i64 (t.cnt most)), []) := by
  refine Ty.ind fun k as ih most hwf hm => ?_
  simp only [Ty.wf] at hwf
  refine call_of (hR.at 33 (by kernel_rfl) tab33) (by rfl) ?_
  simp only [Ty.enc, Ty.cnt]
  have hl := Ty.encs_len as
  generalize hr : Ty.encs as = rs at hl ⊢
  repeat' (first | refine dS (fun zs hzs => ?_) | refine dg ?_ | refine dN ?_ | refine dD ?_ | refine aN ?_ | refine wS ?_ | refine wG ?_ | refine wD ?_ | refine wK ?_ | refine wR ?_ | refine wE ?_ | refine wB ?_ | refine aR ?_ | refine aE ?_ | refine lN ?_ | refine lR ?_ | refine lE ?_ | refine lO ?_ | refine cT ?_ | refine cF ?_ | refine gO ?_ | refine gU ?_ | refine gF ?_ | refine da (fun z hz => ?_) | refine dl (fun z hz => ?_) | refine dc ?_ | refine dv ?_ | refine di ?_ | refine dp (fun zs hzs => ?_) | (refine dq (fun hq => ?_) (fun hq => ?_) <;> first | (exfalso; omega) | skip) | refine yR ?_ | refine yE ?_ | refine dI ?_ | refine dO ?_ | refine dA ?_ | refine dM (fun z hz => ?_) | refine dX (fun z hz => ?_) | refine dR (fun z hz => ?_) | refine dL ?_)
  refine wploop (σ := Int × Int) (fun x => [(6, .pl (.int .i64 x.1)), (5, .pl (.int .i64 x.2))]) (fun _ => []) (fun x => 0 ≤ x.1 ∧ x.1 ≤ as.length ∧ 1 ≤ x.2 ∧ x.2 ≤ max (most + 2) 1 ∧ Ty.cnts (as.drop x.1.toNat) x.2 most = Ty.cnts as 1 most) (fun x => as.length - x.1.toNat) (0, 1) (by cbv) ⟨by omega, by omega, by omega, by omega, by simp⟩ (by cbv) ?_
  rintro ⟨j, n⟩ ⟨hj1, hj2, hj3, hj4, hj5⟩
  dsimp only at hj1 hj2 hj3 hj4 hj5
  refine wp_at (by cbv) ?_
  by_cases hj : j < as.length
  · obtain ⟨a, ha, hd, he⟩ := Ty.at_ (as := as) (n := j) (by omega)
    rw [hr] at he
    by_cases hq : n ≤ most
    · have hc := ih a ha (most - n) (Ty.wfs_mem hwf.2 ha) (by omega)
      have hb := Ty.cnt_b a (most - n)
      rw [hd] at hj5
      simp only [Ty.cnts, if_pos hq] at hj5
      generalize Ty.enc a = row at hc he
      generalize hmn : most - n = mn at hc hb hj5
      generalize Ty.cnt a mn = c at hc hb hj5
      repeat' (first | refine dS (fun zs hzs => ?_) | refine dg ?_ | refine dN ?_ | refine dD ?_ | refine aN ?_ | refine wS ?_ | refine wG ?_ | refine wD ?_ | refine wK ?_ | refine wR ?_ | refine wE ?_ | refine wB ?_ | refine aR ?_ | refine aE ?_ | refine lN ?_ | refine lR ?_ | refine lE ?_ | refine lO ?_ | refine cT ?_ | refine cF ?_ | refine gO ?_ | refine gU ?_ | refine gF ?_ | refine da (fun z hz => ?_) | refine dl (fun z hz => ?_) | refine dc ?_ | refine dv ?_ | refine di ?_ | refine dp (fun zs hzs => ?_) | (refine dq (fun hq => ?_) (fun hq => ?_) <;> first | (exfalso; omega) | skip) | refine yR ?_ | refine yE ?_ | refine dI ?_ | refine dO ?_ | refine dA ?_ | refine dM (fun z hz => ?_) | refine dX (fun z hz => ?_) | refine dR (fun z hz => ?_) | refine dL ?_)
      all_goals (
        rw [hmn] at hz
        rw [← hz] at hc
        repeat' (first | refine dS (fun zs hzs => ?_) | refine dg ?_ | refine dN ?_ | refine dD ?_ | refine aN ?_ | refine wS ?_ | refine wG ?_ | refine wD ?_ | refine wK ?_ | refine wR ?_ | refine wE ?_ | refine wB ?_ | refine aR ?_ | refine aE ?_ | refine lN ?_ | refine lR ?_ | refine lE ?_ | refine lO ?_ | refine cT ?_ | refine cF ?_ | refine gO ?_ | refine gU ?_ | refine gF ?_ | refine da (fun z hz => ?_) | refine dl (fun z hz => ?_) | refine dc ?_ | refine dv ?_ | refine di ?_ | refine dp (fun zs hzs => ?_) | (refine dq (fun hq => ?_) (fun hq => ?_) <;> first | (exfalso; omega) | skip) | refine yR ?_ | refine yE ?_ | refine dI ?_ | refine dO ?_ | refine dA ?_ | refine dM (fun z hz => ?_) | refine dX (fun z hz => ?_) | refine dR (fun z hz => ?_) | refine dL ?_)
        rename_i z1 hz1
        exact again_normal (z, z1) ⟨by dsimp only; omega, by dsimp only; omega, by dsimp only; omega, by dsimp only; omega, by dsimp only; rw [hz, hz1]; exact hj5⟩ (by dsimp only; omega) (by cbv))
    · have hj6 : Ty.cnts as 1 most = n := by
        rw [hd] at hj5
        simp only [Ty.cnts, if_neg hq] at hj5
        exact hj5.symm
      repeat' (first | refine dS (fun zs hzs => ?_) | refine dg ?_ | refine dN ?_ | refine dD ?_ | refine aN ?_ | refine wS ?_ | refine wG ?_ | refine wD ?_ | refine wK ?_ | refine wR ?_ | refine wE ?_ | refine wB ?_ | refine aR ?_ | refine aE ?_ | refine lN ?_ | refine lR ?_ | refine lE ?_ | refine lO ?_ | refine cT ?_ | refine cF ?_ | refine gO ?_ | refine gU ?_ | refine gF ?_ | refine da (fun z hz => ?_) | refine dl (fun z hz => ?_) | refine dc ?_ | refine dv ?_ | refine di ?_ | refine dp (fun zs hzs => ?_) | (refine dq (fun hq => ?_) (fun hq => ?_) <;> first | (exfalso; omega) | skip) | refine yR ?_ | refine yE ?_ | refine dI ?_ | refine dO ?_ | refine dA ?_ | refine dM (fun z hz => ?_) | refine dX (fun z hz => ?_) | refine dR (fun z hz => ?_) | refine dL ?_)
      (refine fin_ret ?_; rw [hj6]; cbv)
  · have hj6 : Ty.cnts as 1 most = n := by
      rw [drop_all hj1 (by omega)] at hj5
      simp only [Ty.cnts] at hj5
      exact hj5.symm
    repeat' (first | refine dS (fun zs hzs => ?_) | refine dg ?_ | refine dN ?_ | refine dD ?_ | refine aN ?_ | refine wS ?_ | refine wG ?_ | refine wD ?_ | refine wK ?_ | refine wR ?_ | refine wE ?_ | refine wB ?_ | refine aR ?_ | refine aE ?_ | refine lN ?_ | refine lR ?_ | refine lE ?_ | refine lO ?_ | refine cT ?_ | refine cF ?_ | refine gO ?_ | refine gU ?_ | refine gF ?_ | refine da (fun z hz => ?_) | refine dl (fun z hz => ?_) | refine dc ?_ | refine dv ?_ | refine di ?_ | refine dp (fun zs hzs => ?_) | (refine dq (fun hq => ?_) (fun hq => ?_) <;> first | (exfalso; omega) | skip) | refine yR ?_ | refine yE ?_ | refine dI ?_ | refine dO ?_ | refine dA ?_ | refine dM (fun z hz => ?_) | refine dX (fun z hz => ?_) | refine dR (fun z hz => ?_) | refine dL ?_)
    (refine fin_ret ?_; rw [hj6]; cbv)
theorem call34 (hR : Has R G c34) : ∀ (t : Tm) (most : Int), t.wf → -2^39 < most ∧ most < 2^39 → (Lim R G).call 34 [.st 5 t.enc, .pl (.int .i64 most)] [] = some (.pl (.int .i64 (t.cnt most)), []) := by
  refine Tm.ind fun k i t as ih most hwf hm => ?_
  simp only [Tm.wf] at hwf
  obtain ⟨tk, ta⟩ := t
  have hcT := call33 (hR.sub (by kernel_rfl)) ⟨tk, ta⟩ (most - 1) hwf.1 (by omega)
  have hbT := Ty.cnt_b ⟨tk, ta⟩ (most - 1)
  refine call_of (hR.at 34 (by kernel_rfl) tab34) (by rfl) ?_
  simp only [Tm.enc, Tm.cnt, Ty.enc, Ty.kind, Ty.args] at hcT ⊢
  have hl := Tm.encs_len as
  generalize hr : Tm.encs as = rs at hl ⊢
  generalize Ty.encs ta = rt at hcT ⊢
  repeat' (first | refine dS (fun zs hzs => ?_) | refine dg ?_ | refine dN ?_ | refine dD ?_ | refine aN ?_ | refine wS ?_ | refine wG ?_ | refine wD ?_ | refine wK ?_ | refine wR ?_ | refine wE ?_ | refine wB ?_ | refine aR ?_ | refine aE ?_ | refine lN ?_ | refine lR ?_ | refine lE ?_ | refine lO ?_ | refine cT ?_ | refine cF ?_ | refine gO ?_ | refine gU ?_ | refine gF ?_ | refine da (fun z hz => ?_) | refine dl (fun z hz => ?_) | refine dc ?_ | refine dv ?_ | refine di ?_ | refine dp (fun zs hzs => ?_) | (refine dq (fun hq => ?_) (fun hq => ?_) <;> first | (exfalso; omega) | skip) | refine yR ?_ | refine yE ?_ | refine dI ?_ | refine dO ?_ | refine dA ?_ | refine dM (fun z hz => ?_) | refine dX (fun z hz => ?_) | refine dR (fun z hz => ?_) | refine dL ?_)
  rw [← hz] at hcT hbT ⊢
  generalize Ty.cnt ⟨tk, ta⟩ z = c at hcT hbT ⊢
  repeat' (first | refine dS (fun zs hzs => ?_) | refine dg ?_ | refine dN ?_ | refine dD ?_ | refine aN ?_ | refine wS ?_ | refine wG ?_ | refine wD ?_ | refine wK ?_ | refine wR ?_ | refine wE ?_ | refine wB ?_ | refine aR ?_ | refine aE ?_ | refine lN ?_ | refine lR ?_ | refine lE ?_ | refine lO ?_ | refine cT ?_ | refine cF ?_ | refine gO ?_ | refine gU ?_ | refine gF ?_ | refine da (fun z hz => ?_) | refine dl (fun z hz => ?_) | refine dc ?_ | refine dv ?_ | refine di ?_ | refine dp (fun zs hzs => ?_) | (refine dq (fun hq => ?_) (fun hq => ?_) <;> first | (exfalso; omega) | skip) | refine yR ?_ | refine yE ?_ | refine dI ?_ | refine dO ?_ | refine dA ?_ | refine dM (fun z hz => ?_) | refine dX (fun z hz => ?_) | refine dR (fun z hz => ?_) | refine dL ?_)
  revert z; intro w hw
  rw [← hw]
  refine wploop (σ := Int × Int) (fun x => [(6, .pl (.int .i64 x.1)), (5, .pl (.int .i64 x.2))]) (fun _ => []) (fun x => 0 ≤ x.1 ∧ x.1 ≤ as.length ∧ w ≤ x.2 ∧ x.2 ≤ max (most + 2) w ∧ Tm.cnts (as.drop x.1.toNat) x.2 most = Tm.cnts as w most) (fun x => as.length - x.1.toNat) (0, w) (by cbv) ⟨by omega, by omega, by omega, by omega, by simp⟩ (by cbv) ?_
  rintro ⟨j, n⟩ ⟨hj1, hj2, hj3, hj4, hj5⟩
  dsimp only at hj1 hj2 hj3 hj4 hj5
  refine wp_at (by cbv) ?_
  by_cases hj : j < as.length
  · obtain ⟨a, ha, hd, he⟩ := Tm.at_ (as := as) (n := j) (by omega)
    rw [hr] at he
    by_cases hq : n ≤ most
    · have hc := ih a ha (most - n) (Tm.wfs_mem hwf.2.2 ha) (by omega)
      have hb := Tm.cnt_b a (most - n)
      rw [hd] at hj5
      simp only [Tm.cnts, if_pos hq] at hj5
      generalize Tm.enc a = row at hc he
      generalize hmn : most - n = mn at hc hb hj5
      generalize Tm.cnt a mn = c at hc hb hj5
      repeat' (first | refine dS (fun zs hzs => ?_) | refine dg ?_ | refine dN ?_ | refine dD ?_ | refine aN ?_ | refine wS ?_ | refine wG ?_ | refine wD ?_ | refine wK ?_ | refine wR ?_ | refine wE ?_ | refine wB ?_ | refine aR ?_ | refine aE ?_ | refine lN ?_ | refine lR ?_ | refine lE ?_ | refine lO ?_ | refine cT ?_ | refine cF ?_ | refine gO ?_ | refine gU ?_ | refine gF ?_ | refine da (fun z hz => ?_) | refine dl (fun z hz => ?_) | refine dc ?_ | refine dv ?_ | refine di ?_ | refine dp (fun zs hzs => ?_) | (refine dq (fun hq => ?_) (fun hq => ?_) <;> first | (exfalso; omega) | skip) | refine yR ?_ | refine yE ?_ | refine dI ?_ | refine dO ?_ | refine dA ?_ | refine dM (fun z hz => ?_) | refine dX (fun z hz => ?_) | refine dR (fun z hz => ?_) | refine dL ?_)
      all_goals (
        rw [hmn] at hz
        rw [← hz] at hc
        repeat' (first | refine dS (fun zs hzs => ?_) | refine dg ?_ | refine dN ?_ | refine dD ?_ | refine aN ?_ | refine wS ?_ | refine wG ?_ | refine wD ?_ | refine wK ?_ | refine wR ?_ | refine wE ?_ | refine wB ?_ | refine aR ?_ | refine aE ?_ | refine lN ?_ | refine lR ?_ | refine lE ?_ | refine lO ?_ | refine cT ?_ | refine cF ?_ | refine gO ?_ | refine gU ?_ | refine gF ?_ | refine da (fun z hz => ?_) | refine dl (fun z hz => ?_) | refine dc ?_ | refine dv ?_ | refine di ?_ | refine dp (fun zs hzs => ?_) | (refine dq (fun hq => ?_) (fun hq => ?_) <;> first | (exfalso; omega) | skip) | refine yR ?_ | refine yE ?_ | refine dI ?_ | refine dO ?_ | refine dA ?_ | refine dM (fun z hz => ?_) | refine dX (fun z hz => ?_) | refine dR (fun z hz => ?_) | refine dL ?_)
        rename_i z1 hz1
        exact again_normal (z, z1) ⟨by dsimp only; omega, by dsimp only; omega, by dsimp only; omega, by dsimp only; omega, by dsimp only; rw [hz, hz1]; exact hj5⟩ (by dsimp only; omega) (by cbv))
    · have hj6 : Tm.cnts as w most = n := by
        rw [hd] at hj5
        simp only [Tm.cnts, if_neg hq] at hj5
        exact hj5.symm
      repeat' (first | refine dS (fun zs hzs => ?_) | refine dg ?_ | refine dN ?_ | refine dD ?_ | refine aN ?_ | refine wS ?_ | refine wG ?_ | refine wD ?_ | refine wK ?_ | refine wR ?_ | refine wE ?_ | refine wB ?_ | refine aR ?_ | refine aE ?_ | refine lN ?_ | refine lR ?_ | refine lE ?_ | refine lO ?_ | refine cT ?_ | refine cF ?_ | refine gO ?_ | refine gU ?_ | refine gF ?_ | refine da (fun z hz => ?_) | refine dl (fun z hz => ?_) | refine dc ?_ | refine dv ?_ | refine di ?_ | refine dp (fun zs hzs => ?_) | (refine dq (fun hq => ?_) (fun hq => ?_) <;> first | (exfalso; omega) | skip) | refine yR ?_ | refine yE ?_ | refine dI ?_ | refine dO ?_ | refine dA ?_ | refine dM (fun z hz => ?_) | refine dX (fun z hz => ?_) | refine dR (fun z hz => ?_) | refine dL ?_)
      (refine fin_ret ?_; rw [hj6]; cbv)
  · have hj6 : Tm.cnts as w most = n := by
      rw [drop_all hj1 (by omega)] at hj5
      simp only [Tm.cnts] at hj5
      exact hj5.symm
    repeat' (first | refine dS (fun zs hzs => ?_) | refine dg ?_ | refine dN ?_ | refine dD ?_ | refine aN ?_ | refine wS ?_ | refine wG ?_ | refine wD ?_ | refine wK ?_ | refine wR ?_ | refine wE ?_ | refine wB ?_ | refine aR ?_ | refine aE ?_ | refine lN ?_ | refine lR ?_ | refine lE ?_ | refine lO ?_ | refine cT ?_ | refine cF ?_ | refine gO ?_ | refine gU ?_ | refine gF ?_ | refine da (fun z hz => ?_) | refine dl (fun z hz => ?_) | refine dc ?_ | refine dv ?_ | refine di ?_ | refine dp (fun zs hzs => ?_) | (refine dq (fun hq => ?_) (fun hq => ?_) <;> first | (exfalso; omega) | skip) | refine yR ?_ | refine yE ?_ | refine dI ?_ | refine dO ?_ | refine dA ?_ | refine dM (fun z hz => ?_) | refine dX (fun z hz => ?_) | refine dR (fun z hz => ?_) | refine dL ?_)
    (refine fin_ret ?_; rw [hj6]; cbv)
theorem call15 (hR : Has R G c15) : ∀ (t : Fm) (most : Int), t.wf → -2^38 < most ∧ most < 2^38 → (Lim R G).call 15 [.st 5 t.enc, .pl (.int .i64 most)] [] = some (.pl (.int .i64 (t.cnt most)), []) := by
  refine Fm.ind fun k t ts as ih most hwf hm => ?_
  simp only [Fm.wf] at hwf
  obtain ⟨tk, ta⟩ := t
  have hcT := call33 (hR.sub (by kernel_rfl)) ⟨tk, ta⟩ (most - 1) hwf.1 (by omega)
  have hbT := Ty.cnt_b ⟨tk, ta⟩ (most - 1)
  refine call_of (hR.at 15 (by kernel_rfl) tab15) (by rfl) ?_
  simp only [Fm.enc, Fm.cnt, Ty.enc, Ty.kind, Ty.args] at hcT ⊢
  have hl := Fm.encs_len as
  generalize hr : Fm.encs as = rs at hl ⊢
  have hl' := Tm.encs_len ts
  generalize hr' : Tm.encs ts = rs' at hl' ⊢
  generalize Ty.encs ta = rt at hcT ⊢
  repeat' (first | refine dS (fun zs hzs => ?_) | refine dg ?_ | refine dN ?_ | refine dD ?_ | refine aN ?_ | refine wS ?_ | refine wG ?_ | refine wD ?_ | refine wK ?_ | refine wR ?_ | refine wE ?_ | refine wB ?_ | refine aR ?_ | refine aE ?_ | refine lN ?_ | refine lR ?_ | refine lE ?_ | refine lO ?_ | refine cT ?_ | refine cF ?_ | refine gO ?_ | refine gU ?_ | refine gF ?_ | refine da (fun z hz => ?_) | refine dl (fun z hz => ?_) | refine dc ?_ | refine dv ?_ | refine di ?_ | refine dp (fun zs hzs => ?_) | (refine dq (fun hq => ?_) (fun hq => ?_) <;> first | (exfalso; omega) | skip) | refine yR ?_ | refine yE ?_ | refine dI ?_ | refine dO ?_ | refine dA ?_ | refine dM (fun z hz => ?_) | refine dX (fun z hz => ?_) | refine dR (fun z hz => ?_) | refine dL ?_)
  rw [← hz] at hcT hbT ⊢
  generalize Ty.cnt ⟨tk, ta⟩ z = c at hcT hbT ⊢
  repeat' (first | refine dS (fun zs hzs => ?_) | refine dg ?_ | refine dN ?_ | refine dD ?_ | refine aN ?_ | refine wS ?_ | refine wG ?_ | refine wD ?_ | refine wK ?_ | refine wR ?_ | refine wE ?_ | refine wB ?_ | refine aR ?_ | refine aE ?_ | refine lN ?_ | refine lR ?_ | refine lE ?_ | refine lO ?_ | refine cT ?_ | refine cF ?_ | refine gO ?_ | refine gU ?_ | refine gF ?_ | refine da (fun z hz => ?_) | refine dl (fun z hz => ?_) | refine dc ?_ | refine dv ?_ | refine di ?_ | refine dp (fun zs hzs => ?_) | (refine dq (fun hq => ?_) (fun hq => ?_) <;> first | (exfalso; omega) | skip) | refine yR ?_ | refine yE ?_ | refine dI ?_ | refine dO ?_ | refine dA ?_ | refine dM (fun z hz => ?_) | refine dX (fun z hz => ?_) | refine dR (fun z hz => ?_) | refine dL ?_)
  revert z; intro w hw
  rw [← hw]
  refine wploop (σ := Int × Int) (fun x => [(6, .pl (.int .i64 x.1)), (5, .pl (.int .i64 x.2))]) (fun _ => []) (fun x => 0 ≤ x.1 ∧ x.1 ≤ ts.length ∧ w ≤ x.2 ∧ x.2 ≤ max (most + 2) w ∧ Tm.cnts (ts.drop x.1.toNat) x.2 most = Tm.cnts ts w most) (fun x => ts.length - x.1.toNat) (0, w) (by cbv) ⟨by omega, by omega, by omega, by omega, by simp⟩ (by cbv) ?_
  rintro ⟨j, n⟩ ⟨hj1, hj2, hj3, hj4, hj5⟩
  dsimp only at hj1 hj2 hj3 hj4 hj5
  refine wp_at (by cbv) ?_
  by_cases hj : j < ts.length
  · obtain ⟨a, ha, hd, he⟩ := Tm.at_ (as := ts) (n := j) (by omega)
    rw [hr'] at he
    by_cases hq : n ≤ most
    · have hc := call34 (hR.sub (by kernel_rfl)) a (most - n) (Tm.wfs_mem hwf.2.2.1 ha) (by omega)
      have hb := Tm.cnt_b a (most - n)
      rw [hd] at hj5
      simp only [Tm.cnts, if_pos hq] at hj5
      generalize Tm.enc a = row at hc he
      generalize hmn : most - n = mn at hc hb hj5
      generalize Tm.cnt a mn = c at hc hb hj5
      repeat' (first | refine dS (fun zs hzs => ?_) | refine dg ?_ | refine dN ?_ | refine dD ?_ | refine aN ?_ | refine wS ?_ | refine wG ?_ | refine wD ?_ | refine wK ?_ | refine wR ?_ | refine wE ?_ | refine wB ?_ | refine aR ?_ | refine aE ?_ | refine lN ?_ | refine lR ?_ | refine lE ?_ | refine lO ?_ | refine cT ?_ | refine cF ?_ | refine gO ?_ | refine gU ?_ | refine gF ?_ | refine da (fun z hz => ?_) | refine dl (fun z hz => ?_) | refine dc ?_ | refine dv ?_ | refine di ?_ | refine dp (fun zs hzs => ?_) | (refine dq (fun hq => ?_) (fun hq => ?_) <;> first | (exfalso; omega) | skip) | refine yR ?_ | refine yE ?_ | refine dI ?_ | refine dO ?_ | refine dA ?_ | refine dM (fun z hz => ?_) | refine dX (fun z hz => ?_) | refine dR (fun z hz => ?_) | refine dL ?_)
      all_goals (
        rw [hmn] at hz
        rw [← hz] at hc
        repeat' (first | refine dS (fun zs hzs => ?_) | refine dg ?_ | refine dN ?_ | refine dD ?_ | refine aN ?_ | refine wS ?_ | refine wG ?_ | refine wD ?_ | refine wK ?_ | refine wR ?_ | refine wE ?_ | refine wB ?_ | refine aR ?_ | refine aE ?_ | refine lN ?_ | refine lR ?_ | refine lE ?_ | refine lO ?_ | refine cT ?_ | refine cF ?_ | refine gO ?_ | refine gU ?_ | refine gF ?_ | refine da (fun z hz => ?_) | refine dl (fun z hz => ?_) | refine dc ?_ | refine dv ?_ | refine di ?_ | refine dp (fun zs hzs => ?_) | (refine dq (fun hq => ?_) (fun hq => ?_) <;> first | (exfalso; omega) | skip) | refine yR ?_ | refine yE ?_ | refine dI ?_ | refine dO ?_ | refine dA ?_ | refine dM (fun z hz => ?_) | refine dX (fun z hz => ?_) | refine dR (fun z hz => ?_) | refine dL ?_)
        rename_i z1 hz1
        exact again_normal (z, z1) ⟨by dsimp only; omega, by dsimp only; omega, by dsimp only; omega, by dsimp only; omega, by dsimp only; rw [hz, hz1]; exact hj5⟩ (by dsimp only; omega) (by cbv))
    · have hj6 : Tm.cnts ts w most = n := by
        rw [hd] at hj5
        simp only [Tm.cnts, if_neg hq] at hj5
        exact hj5.symm
      repeat' (first | refine dS (fun zs hzs => ?_) | refine dg ?_ | refine dN ?_ | refine dD ?_ | refine aN ?_ | refine wS ?_ | refine wG ?_ | refine wD ?_ | refine wK ?_ | refine wR ?_ | refine wE ?_ | refine wB ?_ | refine aR ?_ | refine aE ?_ | refine lN ?_ | refine lR ?_ | refine lE ?_ | refine lO ?_ | refine cT ?_ | refine cF ?_ | refine gO ?_ | refine gU ?_ | refine gF ?_ | refine da (fun z hz => ?_) | refine dl (fun z hz => ?_) | refine dc ?_ | refine dv ?_ | refine di ?_ | refine dp (fun zs hzs => ?_) | (refine dq (fun hq => ?_) (fun hq => ?_) <;> first | (exfalso; omega) | skip) | refine yR ?_ | refine yE ?_ | refine dI ?_ | refine dO ?_ | refine dA ?_ | refine dM (fun z hz => ?_) | refine dX (fun z hz => ?_) | refine dR (fun z hz => ?_) | refine dL ?_)
      rw [hj6]
      obtain ⟨m, hmn⟩ : ∃ m, m = n := ⟨n, rfl⟩
      subst hmn
      clear hj6 hj5 hq
      repeat' (first | refine dS (fun zs hzs => ?_) | refine dg ?_ | refine dN ?_ | refine dD ?_ | refine aN ?_ | refine wS ?_ | refine wG ?_ | refine wD ?_ | refine wK ?_ | refine wR ?_ | refine wE ?_ | refine wB ?_ | refine aR ?_ | refine aE ?_ | refine lN ?_ | refine lR ?_ | refine lE ?_ | refine lO ?_ | refine cT ?_ | refine cF ?_ | refine gO ?_ | refine gU ?_ | refine gF ?_ | refine da (fun z hz => ?_) | refine dl (fun z hz => ?_) | refine dc ?_ | refine dv ?_ | refine di ?_ | refine dp (fun zs hzs => ?_) | (refine dq (fun hq => ?_) (fun hq => ?_) <;> first | (exfalso; omega) | skip) | refine yR ?_ | refine yE ?_ | refine dI ?_ | refine dO ?_ | refine dA ?_ | refine dM (fun z hz => ?_) | refine dX (fun z hz => ?_) | refine dR (fun z hz => ?_) | refine dL ?_)
      refine wploop (σ := Int × Int) (fun x => [(7, .pl (.int .i64 x.1)), (5, .pl (.int .i64 x.2))]) (fun _ => []) (fun x => 0 ≤ x.1 ∧ x.1 ≤ as.length ∧ m ≤ x.2 ∧ x.2 ≤ max (most + 2) m ∧ Fm.cnts (as.drop x.1.toNat) x.2 most = Fm.cnts as m most) (fun x => as.length - x.1.toNat) (0, m) (by cbv) ⟨by omega, by omega, by omega, by omega, by simp⟩ (by cbv) ?_
      rintro ⟨j, n⟩ ⟨hj1, hj2, hj3, hj4, hj5⟩
      dsimp only at hj1 hj2 hj3 hj4 hj5
      refine wp_at (by cbv) ?_
      by_cases hj : j < as.length
      · obtain ⟨a, ha, hd, he⟩ := Fm.at_ (as := as) (n := j) (by omega)
        rw [hr] at he
        by_cases hq : n ≤ most
        · have hc := ih a ha (most - n) (Fm.wfs_mem hwf.2.2.2.2 ha) (by omega)
          have hb := Fm.cnt_b a (most - n)
          rw [hd] at hj5
          simp only [Fm.cnts, if_pos hq] at hj5
          generalize Fm.enc a = row at hc he
          generalize hmn : most - n = mn at hc hb hj5
          generalize Fm.cnt a mn = c at hc hb hj5
          repeat' (first | refine dS (fun zs hzs => ?_) | refine dg ?_ | refine dN ?_ | refine dD ?_ | refine aN ?_ | refine wS ?_ | refine wG ?_ | refine wD ?_ | refine wK ?_ | refine wR ?_ | refine wE ?_ | refine wB ?_ | refine aR ?_ | refine aE ?_ | refine lN ?_ | refine lR ?_ | refine lE ?_ | refine lO ?_ | refine cT ?_ | refine cF ?_ | refine gO ?_ | refine gU ?_ | refine gF ?_ | refine da (fun z hz => ?_) | refine dl (fun z hz => ?_) | refine dc ?_ | refine dv ?_ | refine di ?_ | refine dp (fun zs hzs => ?_) | (refine dq (fun hq => ?_) (fun hq => ?_) <;> first | (exfalso; omega) | skip) | refine yR ?_ | refine yE ?_ | refine dI ?_ | refine dO ?_ | refine dA ?_ | refine dM (fun z hz => ?_) | refine dX (fun z hz => ?_) | refine dR (fun z hz => ?_) | refine dL ?_)
          all_goals (
            rw [hmn] at hz
            rw [← hz] at hc
            repeat' (first | refine dS (fun zs hzs => ?_) | refine dg ?_ | refine dN ?_ | refine dD ?_ | refine aN ?_ | refine wS ?_ | refine wG ?_ | refine wD ?_ | refine wK ?_ | refine wR ?_ | refine wE ?_ | refine wB ?_ | refine aR ?_ | refine aE ?_ | refine lN ?_ | refine lR ?_ | refine lE ?_ | refine lO ?_ | refine cT ?_ | refine cF ?_ | refine gO ?_ | refine gU ?_ | refine gF ?_ | refine da (fun z hz => ?_) | refine dl (fun z hz => ?_) | refine dc ?_ | refine dv ?_ | refine di ?_ | refine dp (fun zs hzs => ?_) | (refine dq (fun hq => ?_) (fun hq => ?_) <;> first | (exfalso; omega) | skip) | refine yR ?_ | refine yE ?_ | refine dI ?_ | refine dO ?_ | refine dA ?_ | refine dM (fun z hz => ?_) | refine dX (fun z hz => ?_) | refine dR (fun z hz => ?_) | refine dL ?_)
            rename_i z1 hz1
            exact again_normal (z, z1) ⟨by dsimp only; omega, by dsimp only; omega, by dsimp only; omega, by dsimp only; omega, by dsimp only; rw [hz, hz1]; exact hj5⟩ (by dsimp only; omega) (by cbv))
        · have hj6 : Fm.cnts as m most = n := by
            rw [hd] at hj5
            simp only [Fm.cnts, if_neg hq] at hj5
            exact hj5.symm
          repeat' (first | refine dS (fun zs hzs => ?_) | refine dg ?_ | refine dN ?_ | refine dD ?_ | refine aN ?_ | refine wS ?_ | refine wG ?_ | refine wD ?_ | refine wK ?_ | refine wR ?_ | refine wE ?_ | refine wB ?_ | refine aR ?_ | refine aE ?_ | refine lN ?_ | refine lR ?_ | refine lE ?_ | refine lO ?_ | refine cT ?_ | refine cF ?_ | refine gO ?_ | refine gU ?_ | refine gF ?_ | refine da (fun z hz => ?_) | refine dl (fun z hz => ?_) | refine dc ?_ | refine dv ?_ | refine di ?_ | refine dp (fun zs hzs => ?_) | (refine dq (fun hq => ?_) (fun hq => ?_) <;> first | (exfalso; omega) | skip) | refine yR ?_ | refine yE ?_ | refine dI ?_ | refine dO ?_ | refine dA ?_ | refine dM (fun z hz => ?_) | refine dX (fun z hz => ?_) | refine dR (fun z hz => ?_) | refine dL ?_)
          (refine fin_ret ?_; rw [hj6]; cbv)
      · have hj6 : Fm.cnts as m most = n := by
          rw [drop_all hj1 (by omega)] at hj5
          simp only [Fm.cnts] at hj5
          exact hj5.symm
        repeat' (first | refine dS (fun zs hzs => ?_) | refine dg ?_ | refine dN ?_ | refine dD ?_ | refine aN ?_ | refine wS ?_ | refine wG ?_ | refine wD ?_ | refine wK ?_ | refine wR ?_ | refine wE ?_ | refine wB ?_ | refine aR ?_ | refine aE ?_ | refine lN ?_ | refine lR ?_ | refine lE ?_ | refine lO ?_ | refine cT ?_ | refine cF ?_ | refine gO ?_ | refine gU ?_ | refine gF ?_ | refine da (fun z hz => ?_) | refine dl (fun z hz => ?_) | refine dc ?_ | refine dv ?_ | refine di ?_ | refine dp (fun zs hzs => ?_) | (refine dq (fun hq => ?_) (fun hq => ?_) <;> first | (exfalso; omega) | skip) | refine yR ?_ | refine yE ?_ | refine dI ?_ | refine dO ?_ | refine dA ?_ | refine dM (fun z hz => ?_) | refine dX (fun z hz => ?_) | refine dR (fun z hz => ?_) | refine dL ?_)
        (refine fin_ret ?_; rw [hj6]; cbv)
  · have hj6 : Tm.cnts ts w most = n := by
      rw [drop_all hj1 (by omega)] at hj5
      simp only [Tm.cnts] at hj5
      exact hj5.symm
    repeat' (first | refine dS (fun zs hzs => ?_) | refine dg ?_ | refine dN ?_ | refine dD ?_ | refine aN ?_ | refine wS ?_ | refine wG ?_ | refine wD ?_ | refine wK ?_ | refine wR ?_ | refine wE ?_ | refine wB ?_ | refine aR ?_ | refine aE ?_ | refine lN ?_ | refine lR ?_ | refine lE ?_ | refine lO ?_ | refine cT ?_ | refine cF ?_ | refine gO ?_ | refine gU ?_ | refine gF ?_ | refine da (fun z hz => ?_) | refine dl (fun z hz => ?_) | refine dc ?_ | refine dv ?_ | refine di ?_ | refine dp (fun zs hzs => ?_) | (refine dq (fun hq => ?_) (fun hq => ?_) <;> first | (exfalso; omega) | skip) | refine yR ?_ | refine yE ?_ | refine dI ?_ | refine dO ?_ | refine dA ?_ | refine dM (fun z hz => ?_) | refine dX (fun z hz => ?_) | refine dR (fun z hz => ?_) | refine dL ?_)
    rw [hj6]
    obtain ⟨m, hmn⟩ : ∃ m, m = n := ⟨n, rfl⟩
    subst hmn
    clear hj6 hj5 hq
    repeat' (first | refine dS (fun zs hzs => ?_) | refine dg ?_ | refine dN ?_ | refine dD ?_ | refine aN ?_ | refine wS ?_ | refine wG ?_ | refine wD ?_ | refine wK ?_ | refine wR ?_ | refine wE ?_ | refine wB ?_ | refine aR ?_ | refine aE ?_ | refine lN ?_ | refine lR ?_ | refine lE ?_ | refine lO ?_ | refine cT ?_ | refine cF ?_ | refine gO ?_ | refine gU ?_ | refine gF ?_ | refine da (fun z hz => ?_) | refine dl (fun z hz => ?_) | refine dc ?_ | refine dv ?_ | refine di ?_ | refine dp (fun zs hzs => ?_) | (refine dq (fun hq => ?_) (fun hq => ?_) <;> first | (exfalso; omega) | skip) | refine yR ?_ | refine yE ?_ | refine dI ?_ | refine dO ?_ | refine dA ?_ | refine dM (fun z hz => ?_) | refine dX (fun z hz => ?_) | refine dR (fun z hz => ?_) | refine dL ?_)
    refine wploop (σ := Int × Int) (fun x => [(7, .pl (.int .i64 x.1)), (5, .pl (.int .i64 x.2))]) (fun _ => []) (fun x => 0 ≤ x.1 ∧ x.1 ≤ as.length ∧ m ≤ x.2 ∧ x.2 ≤ max (most + 2) m ∧ Fm.cnts (as.drop x.1.toNat) x.2 most = Fm.cnts as m most) (fun x => as.length - x.1.toNat) (0, m) (by cbv) ⟨by omega, by omega, by omega, by omega, by simp⟩ (by cbv) ?_
    rintro ⟨j, n⟩ ⟨hj1, hj2, hj3, hj4, hj5⟩
    dsimp only at hj1 hj2 hj3 hj4 hj5
    refine wp_at (by cbv) ?_
    by_cases hj : j < as.length
    · obtain ⟨a, ha, hd, he⟩ := Fm.at_ (as := as) (n := j) (by omega)
      rw [hr] at he
      by_cases hq : n ≤ most
      · have hc := ih a ha (most - n) (Fm.wfs_mem hwf.2.2.2.2 ha) (by omega)
        have hb := Fm.cnt_b a (most - n)
        rw [hd] at hj5
        simp only [Fm.cnts, if_pos hq] at hj5
        generalize Fm.enc a = row at hc he
        generalize hmn : most - n = mn at hc hb hj5
        generalize Fm.cnt a mn = c at hc hb hj5
        repeat' (first | refine dS (fun zs hzs => ?_) | refine dg ?_ | refine dN ?_ | refine dD ?_ | refine aN ?_ | refine wS ?_ | refine wG ?_ | refine wD ?_ | refine wK ?_ | refine wR ?_ | refine wE ?_ | refine wB ?_ | refine aR ?_ | refine aE ?_ | refine lN ?_ | refine lR ?_ | refine lE ?_ | refine lO ?_ | refine cT ?_ | refine cF ?_ | refine gO ?_ | refine gU ?_ | refine gF ?_ | refine da (fun z hz => ?_) | refine dl (fun z hz => ?_) | refine dc ?_ | refine dv ?_ | refine di ?_ | refine dp (fun zs hzs => ?_) | (refine dq (fun hq => ?_) (fun hq => ?_) <;> first | (exfalso; omega) | skip) | refine yR ?_ | refine yE ?_ | refine dI ?_ | refine dO ?_ | refine dA ?_ | refine dM (fun z hz => ?_) | refine dX (fun z hz => ?_) | refine dR (fun z hz => ?_) | refine dL ?_)
        all_goals (
          rw [hmn] at hz
          rw [← hz] at hc
          repeat' (first | refine dS (fun zs hzs => ?_) | refine dg ?_ | refine dN ?_ | refine dD ?_ | refine aN ?_ | refine wS ?_ | refine wG ?_ | refine wD ?_ | refine wK ?_ | refine wR ?_ | refine wE ?_ | refine wB ?_ | refine aR ?_ | refine aE ?_ | refine lN ?_ | refine lR ?_ | refine lE ?_ | refine lO ?_ | refine cT ?_ | refine cF ?_ | refine gO ?_ | refine gU ?_ | refine gF ?_ | refine da (fun z hz => ?_) | refine dl (fun z hz => ?_) | refine dc ?_ | refine dv ?_ | refine di ?_ | refine dp (fun zs hzs => ?_) | (refine dq (fun hq => ?_) (fun hq => ?_) <;> first | (exfalso; omega) | skip) | refine yR ?_ | refine yE ?_ | refine dI ?_ | refine dO ?_ | refine dA ?_ | refine dM (fun z hz => ?_) | refine dX (fun z hz => ?_) | refine dR (fun z hz => ?_) | refine dL ?_)
          rename_i z1 hz1
          exact again_normal (z, z1) ⟨by dsimp only; omega, by dsimp only; omega, by dsimp only; omega, by dsimp only; omega, by dsimp only; rw [hz, hz1]; exact hj5⟩ (by dsimp only; omega) (by cbv))
      · have hj6 : Fm.cnts as m most = n := by
          rw [hd] at hj5
          simp only [Fm.cnts, if_neg hq] at hj5
          exact hj5.symm
        repeat' (first | refine dS (fun zs hzs => ?_) | refine dg ?_ | refine dN ?_ | refine dD ?_ | refine aN ?_ | refine wS ?_ | refine wG ?_ | refine wD ?_ | refine wK ?_ | refine wR ?_ | refine wE ?_ | refine wB ?_ | refine aR ?_ | refine aE ?_ | refine lN ?_ | refine lR ?_ | refine lE ?_ | refine lO ?_ | refine cT ?_ | refine cF ?_ | refine gO ?_ | refine gU ?_ | refine gF ?_ | refine da (fun z hz => ?_) | refine dl (fun z hz => ?_) | refine dc ?_ | refine dv ?_ | refine di ?_ | refine dp (fun zs hzs => ?_) | (refine dq (fun hq => ?_) (fun hq => ?_) <;> first | (exfalso; omega) | skip) | refine yR ?_ | refine yE ?_ | refine dI ?_ | refine dO ?_ | refine dA ?_ | refine dM (fun z hz => ?_) | refine dX (fun z hz => ?_) | refine dR (fun z hz => ?_) | refine dL ?_)
        (refine fin_ret ?_; rw [hj6]; cbv)
    · have hj6 : Fm.cnts as m most = n := by
        rw [drop_all hj1 (by omega)] at hj5
        simp only [Fm.cnts] at hj5
        exact hj5.symm
      repeat' (first | refine dS (fun zs hzs => ?_) | refine dg ?_ | refine dN ?_ | refine dD ?_ | refine aN ?_ | refine wS ?_ | refine wG ?_ | refine wD ?_ | refine wK ?_ | refine wR ?_ | refine wE ?_ | refine wB ?_ | refine aR ?_ | refine aE ?_ | refine lN ?_ | refine lR ?_ | refine lE ?_ | refine lO ?_ | refine cT ?_ | refine cF ?_ | refine gO ?_ | refine gU ?_ | refine gF ?_ | refine da (fun z hz => ?_) | refine dl (fun z hz => ?_) | refine dc ?_ | refine dv ?_ | refine di ?_ | refine dp (fun zs hzs => ?_) | (refine dq (fun hq => ?_) (fun hq => ?_) <;> first | (exfalso; omega) | skip) | refine yR ?_ | refine yE ?_ | refine dI ?_ | refine dO ?_ | refine dA ?_ | refine dM (fun z hz => ?_) | refine dX (fun z hz => ?_) | refine dR (fun z hz => ?_) | refine dL ?_)
      (refine fin_ret ?_; rw [hj6]; cbv)
theorem call4 (hR : Has R G c4) (t : Fm) (hw : t.wf) : (Lim R G).call 4 [.st 5 t.enc] [] = some (.pl (.int .i64 (t.cnt 20000)), []) := by
  have hc := call15 (hR.sub (by kernel_rfl)) t 20000 hw (by omega)
  refine call_of (hR.at 4 (by kernel_rfl) tab4) (by rfl) ?_
  generalize Fm.enc t = row at hc ⊢
  generalize Fm.cnt t 20000 = c at hc ⊢
  repeat' (first | refine dS (fun zs hzs => ?_) | refine dg ?_ | refine dN ?_ | refine dD ?_ | refine aN ?_ | refine wS ?_ | refine wG ?_ | refine wD ?_ | refine wK ?_ | refine wR ?_ | refine wE ?_ | refine wB ?_ | refine aR ?_ | refine aE ?_ | refine lN ?_ | refine lR ?_ | refine lE ?_ | refine lO ?_ | refine cT ?_ | refine cF ?_ | refine gO ?_ | refine gU ?_ | refine gF ?_ | refine da (fun z hz => ?_) | refine dl (fun z hz => ?_) | refine dc ?_ | refine dv ?_ | refine di ?_ | refine dp (fun zs hzs => ?_) | (refine dq (fun hq => ?_) (fun hq => ?_) <;> first | (exfalso; omega) | skip) | refine yR ?_ | refine yE ?_ | refine dI ?_ | refine dO ?_ | refine dA ?_ | refine dM (fun z hz => ?_) | refine dX (fun z hz => ?_) | refine dR (fun z hz => ?_) | refine dL ?_)
  (refine fin_ret ?_; cbv)
theorem call3 (hR : Has R G c3) (rs : List (List PV)) : (Lim R G).call 3 [.pl (.sl 1 rs)] [] = some (.pl (.bool (decide (rs.length ≤ 500))), []) := by
  refine call_of (hR.at 3 (by kernel_rfl) tab3) (by rfl) ?_
  repeat' (first | refine dS (fun zs hzs => ?_) | refine dg ?_ | refine dN ?_ | refine dD ?_ | refine aN ?_ | refine wS ?_ | refine wG ?_ | refine wD ?_ | refine wK ?_ | refine wR ?_ | refine wE ?_ | refine wB ?_ | refine aR ?_ | refine aE ?_ | refine lN ?_ | refine lR ?_ | refine lE ?_ | refine lO ?_ | refine cT ?_ | refine cF ?_ | refine gO ?_ | refine gU ?_ | refine gF ?_ | refine da (fun z hz => ?_) | refine dl (fun z hz => ?_) | refine dc ?_ | refine dv ?_ | refine di ?_ | refine dp (fun zs hzs => ?_) | (refine dq (fun hq => ?_) (fun hq => ?_) <;> first | (exfalso; omega) | skip) | refine yR ?_ | refine yE ?_ | refine dI ?_ | refine dO ?_ | refine dA ?_ | refine dM (fun z hz => ?_) | refine dX (fun z hz => ?_) | refine dR (fun z hz => ?_) | refine dL ?_)
  · (refine fin_ret ?_; rw [decide_eq_true (by omega)]; cbv)
  · (refine fin_ret ?_; rw [decide_eq_false (by omega)]; cbv)
end
end Eng
