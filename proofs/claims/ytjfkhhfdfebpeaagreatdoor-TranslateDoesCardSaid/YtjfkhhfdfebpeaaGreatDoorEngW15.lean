/- The references' functions on formulas: copies, translation. -/
import Derived.Test.YtjfkhhfdfebpeaaGreatDoorEngT
import Derived.Test.YtjfkhhfdfebpeaaGreatDoorEngTab
import Derived.Test.YtjfkhhfdfebpeaaGreatDoorEngW14
import Derived.Test.YtjfkhhfdfebpeaaGreatDoorEngW4
set_option linter.all false
set_option linter.unusedVariables false
set_option linter.unusedSimpArgs false
set_option maxRecDepth 100000
set_option maxHeartbeats 4000000
namespace Eng
open Go
section
variable {R : RProg} {G : Nat → AV}
theorem call62 (hR : Has R G c62) : ∀ (f : Fm) (m : Int), f.size < 2 ^ 31 → (Lim R G).call 62 [.st 5 f.enc, .pl (.int .i64 (m))] [] = some (.pl (.bool (f.least m)), []) := by
  refine Fm.ind fun k t ts as ih m hs => ?_
  simp only [Fm.size] at hs
  refine call_of (hR.at 62 (by kernel_rfl) tab62) (by rfl) ?_
  simp only [Fm.enc, Fm.least]
  have hl := Fm.encs_len as
  have hl2 := Fm.sizes_len as
  generalize hr : Fm.encs as = rs at hl ⊢
  have hl' := Tm.encs_len ts
  have hl2' := Tm.sizes_len ts
  generalize hr' : Tm.encs ts = rs' at hl' ⊢
  generalize Ty.encs t.args = rt at *
  generalize t.kind = tk at *
  generalize hres : (Tm.leasts ts m && Fm.leasts as m) = res
  repeat' (first | refine dS (fun zs hzs => ?_) | refine dg ?_ | refine dN ?_ | refine dD ?_ | refine aN ?_ | refine wS ?_ | refine wG ?_ | refine wD ?_ | refine wK ?_ | refine wR ?_ | refine wE ?_ | refine wB ?_ | refine aR ?_ | refine aE ?_ | refine lN ?_ | refine lR ?_ | refine lE ?_ | refine lO ?_ | refine cT ?_ | refine cF ?_ | refine gO ?_ | refine gU ?_ | refine gF ?_ | refine da (fun z hz => ?_) | refine dl (fun z hz => ?_) | refine dc ?_ | refine dv ?_ | refine di ?_ | refine dp (fun zs hzs => ?_) | (refine dq (fun hq => ?_) (fun hq => ?_) <;> first | (exfalso; omega) | skip) | refine yR ?_ | refine yE ?_ | refine dI ?_ | refine dO ?_ | refine dA ?_ | refine dM (fun z hz => ?_) | refine dX (fun z hz => ?_) | refine dR (fun z hz => ?_) | refine dL ?_)
  refine wploop (σ := Int) (fun x => [(12, .pl (.int .i64 x))]) (fun _ => []) (fun x => 0 ≤ x ∧ x ≤ ts.length ∧ Tm.leasts ts m = Tm.leasts (ts.drop x.toNat) m) (fun x => ts.length - x.toNat) 0 (by cbv) ⟨by omega, by omega, by simp⟩ (by cbv) ?_
  rintro j ⟨hj1, hj2, hj3⟩
  refine wp_at (by cbv) ?_
  by_cases hj : j < ts.length
  · obtain ⟨a, ha, hd, he⟩ := Tm.at_ (as := ts) (n := j) (by omega)
    rw [hr'] at he
    rw [hd] at hj3
    simp only [Tm.leasts] at hj3
    have hc := call81 (hR.sub (by kernel_rfl)) a m (by have := Tm.size_mem ha; omega)
    generalize Tm.enc a = row at hc he
    cases hb : Tm.least a m with
    | false =>
      rw [hb] at hc hj3
      simp only [Bool.false_and] at hj3
      repeat' (first | refine dS (fun zs hzs => ?_) | refine dg ?_ | refine dN ?_ | refine dD ?_ | refine aN ?_ | refine wS ?_ | refine wG ?_ | refine wD ?_ | refine wK ?_ | refine wR ?_ | refine wE ?_ | refine wB ?_ | refine aR ?_ | refine aE ?_ | refine lN ?_ | refine lR ?_ | refine lE ?_ | refine lO ?_ | refine cT ?_ | refine cF ?_ | refine gO ?_ | refine gU ?_ | refine gF ?_ | refine da (fun z hz => ?_) | refine dl (fun z hz => ?_) | refine dc ?_ | refine dv ?_ | refine di ?_ | refine dp (fun zs hzs => ?_) | (refine dq (fun hq => ?_) (fun hq => ?_) <;> first | (exfalso; omega) | skip) | refine yR ?_ | refine yE ?_ | refine dI ?_ | refine dO ?_ | refine dA ?_ | refine dM (fun z hz => ?_) | refine dX (fun z hz => ?_) | refine dR (fun z hz => ?_) | refine dL ?_)
      all_goals (refine fin_ret ?_; rw [← hres, hj3, Bool.false_and]; cbv)
    | true =>
      rw [hb] at hc hj3
      simp only [Bool.true_and] at hj3
      repeat' (first | refine dS (fun zs hzs => ?_) | refine dg ?_ | refine dN ?_ | refine dD ?_ | refine aN ?_ | refine wS ?_ | refine wG ?_ | refine wD ?_ | refine wK ?_ | refine wR ?_ | refine wE ?_ | refine wB ?_ | refine aR ?_ | refine aE ?_ | refine lN ?_ | refine lR ?_ | refine lE ?_ | refine lO ?_ | refine cT ?_ | refine cF ?_ | refine gO ?_ | refine gU ?_ | refine gF ?_ | refine da (fun z hz => ?_) | refine dl (fun z hz => ?_) | refine dc ?_ | refine dv ?_ | refine di ?_ | refine dp (fun zs hzs => ?_) | (refine dq (fun hq => ?_) (fun hq => ?_) <;> first | (exfalso; omega) | skip) | refine yR ?_ | refine yE ?_ | refine dI ?_ | refine dO ?_ | refine dA ?_ | refine dM (fun z hz => ?_) | refine dX (fun z hz => ?_) | refine dR (fun z hz => ?_) | refine dL ?_)
      all_goals exact again_normal z ⟨by omega, by omega, by rw [hj3, hz]⟩ (by omega) (by cbv)
  · rw [drop_all hj1 (by omega)] at hj3
    simp only [Tm.leasts] at hj3
    repeat' (first | refine dS (fun zs hzs => ?_) | refine dg ?_ | refine dN ?_ | refine dD ?_ | refine aN ?_ | refine wS ?_ | refine wG ?_ | refine wD ?_ | refine wK ?_ | refine wR ?_ | refine wE ?_ | refine wB ?_ | refine aR ?_ | refine aE ?_ | refine lN ?_ | refine lR ?_ | refine lE ?_ | refine lO ?_ | refine cT ?_ | refine cF ?_ | refine gO ?_ | refine gU ?_ | refine gF ?_ | refine da (fun z hz => ?_) | refine dl (fun z hz => ?_) | refine dc ?_ | refine dv ?_ | refine di ?_ | refine dp (fun zs hzs => ?_) | (refine dq (fun hq => ?_) (fun hq => ?_) <;> first | (exfalso; omega) | skip) | refine yR ?_ | refine yE ?_ | refine dI ?_ | refine dO ?_ | refine dA ?_ | refine dM (fun z hz => ?_) | refine dX (fun z hz => ?_) | refine dR (fun z hz => ?_) | refine dL ?_)
    rw [hj3, Bool.true_and] at hres
    subst hres
    clear hj3
    refine wploop (σ := Int) (fun x => [(24, .pl (.int .i64 x))]) (fun _ => []) (fun x => 0 ≤ x ∧ x ≤ as.length ∧ Fm.leasts as m = Fm.leasts (as.drop x.toNat) m) (fun x => as.length - x.toNat) 0 (by cbv) ⟨by omega, by omega, by simp⟩ (by cbv) ?_
    rintro j ⟨hj1, hj2, hj3⟩
    refine wp_at (by cbv) ?_
    by_cases hj : j < as.length
    · obtain ⟨a, ha, hd, he⟩ := Fm.at_ (as := as) (n := j) (by omega)
      rw [hr] at he
      rw [hd] at hj3
      simp only [Fm.leasts] at hj3
      have hc := ih a ha m (by have := Fm.size_mem ha; omega)
      generalize Fm.enc a = row at hc he
      cases hb : Fm.least a m with
      | false =>
        rw [hb] at hc hj3
        simp only [Bool.false_and] at hj3
        repeat' (first | refine dS (fun zs hzs => ?_) | refine dg ?_ | refine dN ?_ | refine dD ?_ | refine aN ?_ | refine wS ?_ | refine wG ?_ | refine wD ?_ | refine wK ?_ | refine wR ?_ | refine wE ?_ | refine wB ?_ | refine aR ?_ | refine aE ?_ | refine lN ?_ | refine lR ?_ | refine lE ?_ | refine lO ?_ | refine cT ?_ | refine cF ?_ | refine gO ?_ | refine gU ?_ | refine gF ?_ | refine da (fun z hz => ?_) | refine dl (fun z hz => ?_) | refine dc ?_ | refine dv ?_ | refine di ?_ | refine dp (fun zs hzs => ?_) | (refine dq (fun hq => ?_) (fun hq => ?_) <;> first | (exfalso; omega) | skip) | refine yR ?_ | refine yE ?_ | refine dI ?_ | refine dO ?_ | refine dA ?_ | refine dM (fun z hz => ?_) | refine dX (fun z hz => ?_) | refine dR (fun z hz => ?_) | refine dL ?_)
        all_goals (refine fin_ret ?_; rw [hj3]; cbv)
      | true =>
        rw [hb] at hc hj3
        simp only [Bool.true_and] at hj3
        repeat' (first | refine dS (fun zs hzs => ?_) | refine dg ?_ | refine dN ?_ | refine dD ?_ | refine aN ?_ | refine wS ?_ | refine wG ?_ | refine wD ?_ | refine wK ?_ | refine wR ?_ | refine wE ?_ | refine wB ?_ | refine aR ?_ | refine aE ?_ | refine lN ?_ | refine lR ?_ | refine lE ?_ | refine lO ?_ | refine cT ?_ | refine cF ?_ | refine gO ?_ | refine gU ?_ | refine gF ?_ | refine da (fun z hz => ?_) | refine dl (fun z hz => ?_) | refine dc ?_ | refine dv ?_ | refine di ?_ | refine dp (fun zs hzs => ?_) | (refine dq (fun hq => ?_) (fun hq => ?_) <;> first | (exfalso; omega) | skip) | refine yR ?_ | refine yE ?_ | refine dI ?_ | refine dO ?_ | refine dA ?_ | refine dM (fun z hz => ?_) | refine dX (fun z hz => ?_) | refine dR (fun z hz => ?_) | refine dL ?_)
        all_goals exact again_normal z ⟨by omega, by omega, by rw [hj3, hz]⟩ (by omega) (by cbv)
    · rw [drop_all hj1 (by omega)] at hj3
      simp only [Fm.leasts] at hj3
      repeat' (first | refine dS (fun zs hzs => ?_) | refine dg ?_ | refine dN ?_ | refine dD ?_ | refine aN ?_ | refine wS ?_ | refine wG ?_ | refine wD ?_ | refine wK ?_ | refine wR ?_ | refine wE ?_ | refine wB ?_ | refine aR ?_ | refine aE ?_ | refine lN ?_ | refine lR ?_ | refine lE ?_ | refine lO ?_ | refine cT ?_ | refine cF ?_ | refine gO ?_ | refine gU ?_ | refine gF ?_ | refine da (fun z hz => ?_) | refine dl (fun z hz => ?_) | refine dc ?_ | refine dv ?_ | refine di ?_ | refine dp (fun zs hzs => ?_) | (refine dq (fun hq => ?_) (fun hq => ?_) <;> first | (exfalso; omega) | skip) | refine yR ?_ | refine yE ?_ | refine dI ?_ | refine dO ?_ | refine dA ?_ | refine dM (fun z hz => ?_) | refine dX (fun z hz => ?_) | refine dR (fun z hz => ?_) | refine dL ?_)
      (refine fin_ret ?_; rw [hj3]; cbv)
theorem call64 (hR : Has R G c64) (an : Int) (han : 0 ≤ an ∧ an ≤ 4096) : ∀ (f : Fm), f.size < 2 ^ 31 → f.ok = true → (Lim R G).call 64 [.st 5 f.enc, .pl (.int .i64 (an))] [] = some (.pl (.int .i64 (f.tct an)), []) := by
  refine Fm.ind fun k t ts as ih hs hok => ?_
  have hc0 := call63 (hR.sub (by kernel_rfl)) _ hs
  have hnum := Fm.num_le (.mk k t ts as)
  obtain ⟨hk, _, ho1, ho2⟩ := Fm.ok_mk hok
  have hsz := Fm.tcts_b han.1 as
  simp only [Fm.size] at hs hnum
  refine call_of (hR.at 64 (by kernel_rfl) tab64) (by rfl) ?_
  simp only [Fm.tct]
  generalize hnn : ((Fm.mk k t ts as).num : Int) = nn at hc0 ⊢
  have hnn2 : nn ≤ 2 ^ 31 ∧ 0 ≤ nn := by omega
  simp only [Fm.enc] at hc0 ⊢
  by_cases hk1 : k = 1
  · rw [if_pos hk1]
    generalize hres : min (nn + 2 + 2 * an) 4097 = res
    generalize Ty.encs t.args = rt at *
    generalize t.kind = tk at *
    generalize Tm.encs ts = rs' at *
    generalize Fm.encs as = rs at *
    repeat' (first | refine dS (fun zs hzs => ?_) | refine dg ?_ | refine dN ?_ | refine dD ?_ | refine aN ?_ | refine wS ?_ | refine wG ?_ | refine wD ?_ | refine wK ?_ | refine wR ?_ | refine wE ?_ | refine wB ?_ | refine aR ?_ | refine aE ?_ | refine lN ?_ | refine lR ?_ | refine lE ?_ | refine lO ?_ | refine cT ?_ | refine cF ?_ | refine gO ?_ | refine gU ?_ | refine gF ?_ | refine da (fun z hz => ?_) | refine dl (fun z hz => ?_) | refine dc ?_ | refine dv ?_ | refine di ?_ | refine dp (fun zs hzs => ?_) | (refine dq (fun hq => ?_) (fun hq => ?_) <;> first | (exfalso; omega) | skip) | refine yR ?_ | refine yE ?_ | refine dI ?_ | refine dO ?_ | refine dA ?_ | refine dM (fun z hz => ?_) | refine dX (fun z hz => ?_) | refine dR (fun z hz => ?_) | refine dL ?_)
    (refine fin_ret ?_; rw [show res = z by omega]; cbv)
  · rw [if_neg hk1]
    by_cases hk5 : k = 5
    · rw [if_pos hk5]
      obtain ⟨b, rfl⟩ : ∃ b, as = [b] := by
        rcases Fm.shape hok with h | h | h
        · exact absurd h.1 hk1
        · omega
        · exact h.2.2.2
      simp only [Fm.sizes, Fm.tcts, List.length_cons, List.length_nil] at hs hsz ⊢
      have hc := ih b (by simp) (by omega) (Fm.oks_cons ho2).1
      simp only [Fm.encs] at hc0 ⊢
      generalize Ty.encs t.args = rt at *
      generalize t.kind = tk at *
      generalize Tm.encs ts = rs' at *
      generalize Fm.enc b = rb at *
      generalize Fm.tct b an = c at *
      generalize hres : min (c + 0 + 3 + 2 * an) 4097 = res
      repeat' (first | refine dS (fun zs hzs => ?_) | refine dg ?_ | refine dN ?_ | refine dD ?_ | refine aN ?_ | refine wS ?_ | refine wG ?_ | refine wD ?_ | refine wK ?_ | refine wR ?_ | refine wE ?_ | refine wB ?_ | refine aR ?_ | refine aE ?_ | refine lN ?_ | refine lR ?_ | refine lE ?_ | refine lO ?_ | refine cT ?_ | refine cF ?_ | refine gO ?_ | refine gU ?_ | refine gF ?_ | refine da (fun z hz => ?_) | refine dl (fun z hz => ?_) | refine dc ?_ | refine dv ?_ | refine di ?_ | refine dp (fun zs hzs => ?_) | (refine dq (fun hq => ?_) (fun hq => ?_) <;> first | (exfalso; omega) | skip) | refine yR ?_ | refine yE ?_ | refine dI ?_ | refine dO ?_ | refine dA ?_ | refine dM (fun z hz => ?_) | refine dX (fun z hz => ?_) | refine dR (fun z hz => ?_) | refine dL ?_)
      (refine fin_ret ?_; rw [show res = z by omega]; cbv)
    · rw [if_neg hk5]
      have hl := Fm.encs_len as
      have hl2 := Fm.sizes_len as
      generalize hr : Fm.encs as = rs at hl hc0 ⊢
      generalize Ty.encs t.args = rt at *
      generalize t.kind = tk at *
      generalize Tm.encs ts = rs' at *
      generalize hres : min (Fm.tcts as an + 1) 4097 = res
      repeat' (first | refine dS (fun zs hzs => ?_) | refine dg ?_ | refine dN ?_ | refine dD ?_ | refine aN ?_ | refine wS ?_ | refine wG ?_ | refine wD ?_ | refine wK ?_ | refine wR ?_ | refine wE ?_ | refine wB ?_ | refine aR ?_ | refine aE ?_ | refine lN ?_ | refine lR ?_ | refine lE ?_ | refine lO ?_ | refine cT ?_ | refine cF ?_ | refine gO ?_ | refine gU ?_ | refine gF ?_ | refine da (fun z hz => ?_) | refine dl (fun z hz => ?_) | refine dc ?_ | refine dv ?_ | refine di ?_ | refine dp (fun zs hzs => ?_) | (refine dq (fun hq => ?_) (fun hq => ?_) <;> first | (exfalso; omega) | skip) | refine yR ?_ | refine yE ?_ | refine dI ?_ | refine dO ?_ | refine dA ?_ | refine dM (fun z hz => ?_) | refine dX (fun z hz => ?_) | refine dR (fun z hz => ?_) | refine dL ?_)
      refine wploop (σ := Int × Int) (fun x => [(13, .pl (.int .i64 x.1)), (5, .pl (.int .i64 x.2))]) (fun _ => []) (fun x => 0 ≤ x.1 ∧ x.1 ≤ as.length ∧ 0 ≤ x.2 ∧ x.2 + Fm.tcts (as.drop x.1.toNat) an = Fm.tcts as an + 1) (fun x => as.length - x.1.toNat) (0, 1) (by cbv) ⟨by omega, by omega, by omega, by simp; omega⟩ (by cbv) ?_
      rintro ⟨j, n⟩ ⟨hj1, hj2, hj3, hj4⟩
      dsimp only at hj1 hj2 hj3 hj4
      refine wp_at (by cbv) ?_
      by_cases hj : j < as.length
      · obtain ⟨a, ha, hd, he⟩ := Fm.at_ (as := as) (n := j) (by omega)
        rw [hr] at he
        rw [hd] at hj4
        simp only [Fm.tcts] at hj4
        have hc := ih a ha (by have := Fm.size_mem ha; omega) (Fm.oks_mem ho2 ha)
        (have h1 := Fm.tct_b han.1 a; have h2 := Fm.tcts_b han.1 (as.drop (j + 1).toNat))
        generalize Fm.enc a = row at hc he
        generalize hcs : (Fm.tct a an : Int) = c at hc
        repeat' (first | refine dS (fun zs hzs => ?_) | refine dg ?_ | refine dN ?_ | refine dD ?_ | refine aN ?_ | refine wS ?_ | refine wG ?_ | refine wD ?_ | refine wK ?_ | refine wR ?_ | refine wE ?_ | refine wB ?_ | refine aR ?_ | refine aE ?_ | refine lN ?_ | refine lR ?_ | refine lE ?_ | refine lO ?_ | refine cT ?_ | refine cF ?_ | refine gO ?_ | refine gU ?_ | refine gF ?_ | refine da (fun z hz => ?_) | refine dl (fun z hz => ?_) | refine dc ?_ | refine dv ?_ | refine di ?_ | refine dp (fun zs hzs => ?_) | (refine dq (fun hq => ?_) (fun hq => ?_) <;> first | (exfalso; omega) | skip) | refine yR ?_ | refine yE ?_ | refine dI ?_ | refine dO ?_ | refine dA ?_ | refine dM (fun z hz => ?_) | refine dX (fun z hz => ?_) | refine dR (fun z hz => ?_) | refine dL ?_)
        rename_i z1 hz1
        exact again_normal (z, z1) ⟨by dsimp only; omega, by dsimp only; omega, by dsimp only; omega, by dsimp only; rw [hz]; omega⟩ (by dsimp only; omega) (by cbv)
      · rw [drop_all hj1 (by omega)] at hj4
        simp only [Fm.tcts] at hj4
        repeat' (first | refine dS (fun zs hzs => ?_) | refine dg ?_ | refine dN ?_ | refine dD ?_ | refine aN ?_ | refine wS ?_ | refine wG ?_ | refine wD ?_ | refine wK ?_ | refine wR ?_ | refine wE ?_ | refine wB ?_ | refine aR ?_ | refine aE ?_ | refine lN ?_ | refine lR ?_ | refine lE ?_ | refine lO ?_ | refine cT ?_ | refine cF ?_ | refine gO ?_ | refine gU ?_ | refine gF ?_ | refine da (fun z hz => ?_) | refine dl (fun z hz => ?_) | refine dc ?_ | refine dv ?_ | refine di ?_ | refine dp (fun zs hzs => ?_) | (refine dq (fun hq => ?_) (fun hq => ?_) <;> first | (exfalso; omega) | skip) | refine yR ?_ | refine yE ?_ | refine dI ?_ | refine dO ?_ | refine dA ?_ | refine dM (fun z hz => ?_) | refine dX (fun z hz => ?_) | refine dR (fun z hz => ?_) | refine dL ?_)
        (refine fin_ret ?_; rw [show res = z by omega]; cbv)
theorem call26 (hR : Has R G c26) (a f : Fm) (ha : a.size < 2 ^ 31) (hf : f.size < 2 ^ 31) : (Lim R G).call 26 [.st 5 a.enc, .st 5 f.enc] [] = some (.pl (.int .i64 (a.lookE f)), []) := by
  have h1 := call60 (hR.sub (by kernel_rfl)) a ha
  have h2 := call60 (hR.sub (by kernel_rfl)) f hf
  have h3 := call61 (hR.sub (by kernel_rfl)) f hf
  have h4 := call62 (hR.sub (by kernel_rfl)) a 536870912 ha
  have h5 := call63 (hR.sub (by kernel_rfl)) a ha
  have h6 : a.err = 0 → f.err = 0 → _ := fun ea ef => call64 (hR.sub (by kernel_rfl)) a.num (by have := (Fm.err_ok ea).2; omega) f hf (Fm.err_ok ef).1
  have h8 := Fm.tct_eq (an := a.num) (by omega) f
  unfold Fm.lookE
  refine call_of (hR.at 26 (by kernel_rfl) tab26) (by rfl) ?_
  by_cases e1 : a.err = 0
  · rw [if_neg (by simp [e1])]
    rw [e1] at h1
    by_cases e2 : f.err = 0
    · have h7 := h6 e1 e2
      rw [if_neg (by simp [e2])]
      rw [e2] at h2
      clear h6
      generalize a.enc = ra at *
      generalize f.enc = rf at *
      generalize f.tsz a.num = sz at *
      generalize f.tct a.num = ct at *
      generalize (a.num : Int) = an at *
      cases hn : f.nu with
      | false =>
        rw [hn, Bool.not_false] at h3
        rw [if_pos rfl]
        repeat' (first | refine dS (fun zs hzs => ?_) | refine dg ?_ | refine dN ?_ | refine dD ?_ | refine aN ?_ | refine wS ?_ | refine wG ?_ | refine wD ?_ | refine wK ?_ | refine wR ?_ | refine wE ?_ | refine wB ?_ | refine aR ?_ | refine aE ?_ | refine lN ?_ | refine lR ?_ | refine lE ?_ | refine lO ?_ | refine cT ?_ | refine cF ?_ | refine gO ?_ | refine gU ?_ | refine gF ?_ | refine da (fun z hz => ?_) | refine dl (fun z hz => ?_) | refine dc ?_ | refine dv ?_ | refine di ?_ | refine dp (fun zs hzs => ?_) | (refine dq (fun hq => ?_) (fun hq => ?_) <;> first | (exfalso; omega) | skip) | refine yR ?_ | refine yE ?_ | refine dI ?_ | refine dO ?_ | refine dA ?_ | refine dM (fun z hz => ?_) | refine dX (fun z hz => ?_) | refine dR (fun z hz => ?_) | refine dL ?_)
        (refine fin_ret ?_; cbv)
      | true =>
        rw [hn, Bool.not_true] at h3
        rw [if_neg (by simp)]
        cases hl : a.least 536870912 with
        | false =>
          rw [hl] at h4
          rw [if_pos rfl]
          repeat' (first | refine dS (fun zs hzs => ?_) | refine dg ?_ | refine dN ?_ | refine dD ?_ | refine aN ?_ | refine wS ?_ | refine wG ?_ | refine wD ?_ | refine wK ?_ | refine wR ?_ | refine wE ?_ | refine wB ?_ | refine aR ?_ | refine aE ?_ | refine lN ?_ | refine lR ?_ | refine lE ?_ | refine lO ?_ | refine cT ?_ | refine cF ?_ | refine gO ?_ | refine gU ?_ | refine gF ?_ | refine da (fun z hz => ?_) | refine dl (fun z hz => ?_) | refine dc ?_ | refine dv ?_ | refine di ?_ | refine dp (fun zs hzs => ?_) | (refine dq (fun hq => ?_) (fun hq => ?_) <;> first | (exfalso; omega) | skip) | refine yR ?_ | refine yE ?_ | refine dI ?_ | refine dO ?_ | refine dA ?_ | refine dM (fun z hz => ?_) | refine dX (fun z hz => ?_) | refine dR (fun z hz => ?_) | refine dL ?_)
          (refine fin_ret ?_; cbv)
        | true =>
          rw [hl] at h4
          rw [if_neg (by simp)]
          repeat' (first | refine dS (fun zs hzs => ?_) | refine dg ?_ | refine dN ?_ | refine dD ?_ | refine aN ?_ | refine wS ?_ | refine wG ?_ | refine wD ?_ | refine wK ?_ | refine wR ?_ | refine wE ?_ | refine wB ?_ | refine aR ?_ | refine aE ?_ | refine lN ?_ | refine lR ?_ | refine lE ?_ | refine lO ?_ | refine cT ?_ | refine cF ?_ | refine gO ?_ | refine gU ?_ | refine gF ?_ | refine da (fun z hz => ?_) | refine dl (fun z hz => ?_) | refine dc ?_ | refine dv ?_ | refine di ?_ | refine dp (fun zs hzs => ?_) | (refine dq (fun hq => ?_) (fun hq => ?_) <;> first | (exfalso; omega) | skip) | refine yR ?_ | refine yE ?_ | refine dI ?_ | refine dO ?_ | refine dA ?_ | refine dM (fun z hz => ?_) | refine dX (fun z hz => ?_) | refine dR (fun z hz => ?_) | refine dL ?_)
          · (refine fin_ret ?_; rw [if_pos (by omega)]; cbv)
          · (refine fin_ret ?_; rw [if_neg (by omega)]; cbv)
    · rw [if_pos e2]
      clear h4 h6
      generalize a.enc = ra at *
      generalize f.enc = rf at *
      generalize f.err = er at *
      repeat' (first | refine dS (fun zs hzs => ?_) | refine dg ?_ | refine dN ?_ | refine dD ?_ | refine aN ?_ | refine wS ?_ | refine wG ?_ | refine wD ?_ | refine wK ?_ | refine wR ?_ | refine wE ?_ | refine wB ?_ | refine aR ?_ | refine aE ?_ | refine lN ?_ | refine lR ?_ | refine lE ?_ | refine lO ?_ | refine cT ?_ | refine cF ?_ | refine gO ?_ | refine gU ?_ | refine gF ?_ | refine da (fun z hz => ?_) | refine dl (fun z hz => ?_) | refine dc ?_ | refine dv ?_ | refine di ?_ | refine dp (fun zs hzs => ?_) | (refine dq (fun hq => ?_) (fun hq => ?_) <;> first | (exfalso; omega) | skip) | refine yR ?_ | refine yE ?_ | refine dI ?_ | refine dO ?_ | refine dA ?_ | refine dM (fun z hz => ?_) | refine dX (fun z hz => ?_) | refine dR (fun z hz => ?_) | refine dL ?_)
      (refine fin_ret ?_; cbv)
  · rw [if_pos e1]
    clear h4 h6 h5
    generalize a.enc = ra at *
    generalize f.enc = rf at *
    generalize a.err = er at *
    repeat' (first | refine dS (fun zs hzs => ?_) | refine dg ?_ | refine dN ?_ | refine dD ?_ | refine aN ?_ | refine wS ?_ | refine wG ?_ | refine wD ?_ | refine wK ?_ | refine wR ?_ | refine wE ?_ | refine wB ?_ | refine aR ?_ | refine aE ?_ | refine lN ?_ | refine lR ?_ | refine lE ?_ | refine lO ?_ | refine cT ?_ | refine cF ?_ | refine gO ?_ | refine gU ?_ | refine gF ?_ | refine da (fun z hz => ?_) | refine dl (fun z hz => ?_) | refine dc ?_ | refine dv ?_ | refine di ?_ | refine dp (fun zs hzs => ?_) | (refine dq (fun hq => ?_) (fun hq => ?_) <;> first | (exfalso; omega) | skip) | refine yR ?_ | refine yE ?_ | refine dI ?_ | refine dO ?_ | refine dA ?_ | refine dM (fun z hz => ?_) | refine dX (fun z hz => ?_) | refine dR (fun z hz => ?_) | refine dL ?_)
    (refine fin_ret ?_; cbv)
theorem call83 (hR : Has R G c83) : ∀ (f : Fm) (fr d : Int), f.low (2 ^ 40) → f.size < 2 ^ 31 → (-2 ^ 40 < d ∧ d < 2 ^ 40) → (-2 ^ 39 < fr ∧ fr + f.size < 2 ^ 39) → (Lim R G).call 83 [.st 5 f.enc, .pl (.int .i64 (fr)), .pl (.int .i64 (d))] [] = some (.st 5 (f.up fr d).enc, []) := by
  refine Fm.ind fun k t ts as ih fr d hlow hs hdd hf => ?_
  have hcB := call94 (hR.sub (by kernel_rfl)) (Fm.mk k t ts as)
  rw [show (Fm.mk k t ts as).kind = k from rfl] at hcB
  have hb : 0 ≤ Fm.bnd k ∧ Fm.bnd k ≤ 1 := by unfold Fm.bnd; split <;> omega
  refine call_of (hR.at 83 (by kernel_rfl) tab83) (by rfl) ?_
  simp only [Fm.size, Fm.low] at hs hlow hf
  simp only [Fm.enc, Fm.up] at hcB ⊢
  have hl := Fm.encs_len as
  have hl2 := Fm.sizes_len as
  generalize hr : Fm.encs as = rs at hl hcB ⊢
  have hl' := Tm.encs_len ts
  have hl2' := Tm.sizes_len ts
  generalize hr' : Tm.encs ts = rs' at hl' hcB ⊢
  generalize Ty.encs t.args = rt at *
  generalize t.kind = tk at *
  generalize Fm.bnd k = bk at *
  generalize hoas : Fm.encs (Fm.ups as (fr + bk) d) = ro
  generalize hots : Tm.encs (Tm.ups ts fr d) = ro'
  repeat' (first | refine dS (fun zs hzs => ?_) | refine dg ?_ | refine dN ?_ | refine dD ?_ | refine aN ?_ | refine wS ?_ | refine wG ?_ | refine wD ?_ | refine wK ?_ | refine wR ?_ | refine wE ?_ | refine wB ?_ | refine aR ?_ | refine aE ?_ | refine lN ?_ | refine lR ?_ | refine lE ?_ | refine lO ?_ | refine cT ?_ | refine cF ?_ | refine gO ?_ | refine gU ?_ | refine gF ?_ | refine da (fun z hz => ?_) | refine dl (fun z hz => ?_) | refine dc ?_ | refine dv ?_ | refine di ?_ | refine dp (fun zs hzs => ?_) | (refine dq (fun hq => ?_) (fun hq => ?_) <;> first | (exfalso; omega) | skip) | refine yR ?_ | refine yE ?_ | refine dI ?_ | refine dO ?_ | refine dA ?_ | refine dM (fun z hz => ?_) | refine dX (fun z hz => ?_) | refine dR (fun z hz => ?_) | refine dL ?_)
  refine wploop (σ := Int × List (List PV)) (fun x => [(20, .pl (.int .i64 x.1))]) (fun x => [(1033, .buf 5 x.2 0)]) (fun x => 0 ≤ x.1 ∧ x.1 ≤ ts.length ∧ x.2.length = x.1 ∧ x.2 ++ (fun l => Tm.encs (Tm.ups l fr d)) (ts.drop x.1.toNat) = (fun l => Tm.encs (Tm.ups l fr d)) ts) (fun x => ts.length - x.1.toNat) (0, []) (by cbv) ⟨by omega, by omega, rfl, by simp⟩ (by cbv) ?_
  rintro ⟨j, n⟩ ⟨hj1, hj2, hj3, hj4⟩
  dsimp only at hj1 hj2 hj3 hj4
  refine wp_at (by cbv) ?_
  by_cases hj : j < ts.length
  · obtain ⟨a, ha, hd, he⟩ := Tm.at_ (as := ts) (n := j) (by omega)
    rw [hr'] at he
    rw [hd] at hj4
    simp only [Tm.ups, Tm.encs] at hj4
    have hc := call93 (hR.sub (by kernel_rfl)) a fr d (Tm.lows_mem hlow.1 ha) (by have := Tm.size_mem ha; omega) hdd (by have := Tm.size_mem ha; omega)
    generalize Tm.enc a = row at hc he
    generalize Tm.enc (Tm.up a fr d) = row' at hc hj4
    repeat' (first | refine dS (fun zs hzs => ?_) | refine dg ?_ | refine dN ?_ | refine dD ?_ | refine aN ?_ | refine wS ?_ | refine wG ?_ | refine wD ?_ | refine wK ?_ | refine wR ?_ | refine wE ?_ | refine wB ?_ | refine aR ?_ | refine aE ?_ | refine lN ?_ | refine lR ?_ | refine lE ?_ | refine lO ?_ | refine cT ?_ | refine cF ?_ | refine gO ?_ | refine gU ?_ | refine gF ?_ | refine da (fun z hz => ?_) | refine dl (fun z hz => ?_) | refine dc ?_ | refine dv ?_ | refine di ?_ | refine dp (fun zs hzs => ?_) | (refine dq (fun hq => ?_) (fun hq => ?_) <;> first | (exfalso; omega) | skip) | refine yR ?_ | refine yE ?_ | refine dI ?_ | refine dO ?_ | refine dA ?_ | refine dM (fun z hz => ?_) | refine dX (fun z hz => ?_) | refine dR (fun z hz => ?_) | refine dL ?_)
    exact again_normal (z, zs) ⟨by dsimp only; omega, by dsimp only; omega, by dsimp only; rw [hzs]; simp; omega, by dsimp only; rw [hzs, hz, List.append_assoc]; exact hj4⟩ (by dsimp only; omega) (by cbv)
  · rw [drop_all hj1 (by omega)] at hj4
    simp only [Tm.ups, Tm.encs, List.append_nil] at hj4
    repeat' (first | refine dS (fun zs hzs => ?_) | refine dg ?_ | refine dN ?_ | refine dD ?_ | refine aN ?_ | refine wS ?_ | refine wG ?_ | refine wD ?_ | refine wK ?_ | refine wR ?_ | refine wE ?_ | refine wB ?_ | refine aR ?_ | refine aE ?_ | refine lN ?_ | refine lR ?_ | refine lE ?_ | refine lO ?_ | refine cT ?_ | refine cF ?_ | refine gO ?_ | refine gU ?_ | refine gF ?_ | refine da (fun z hz => ?_) | refine dl (fun z hz => ?_) | refine dc ?_ | refine dv ?_ | refine di ?_ | refine dp (fun zs hzs => ?_) | (refine dq (fun hq => ?_) (fun hq => ?_) <;> first | (exfalso; omega) | skip) | refine yR ?_ | refine yE ?_ | refine dI ?_ | refine dO ?_ | refine dA ?_ | refine dM (fun z hz => ?_) | refine dX (fun z hz => ?_) | refine dR (fun z hz => ?_) | refine dL ?_)
    rw [hots] at hj4
    subst hj4
    refine wploop (σ := Int × List (List PV)) (fun x => [(37, .pl (.int .i64 x.1))]) (fun x => [(1034, .buf 5 x.2 0)]) (fun x => 0 ≤ x.1 ∧ x.1 ≤ as.length ∧ x.2.length = x.1 ∧ x.2 ++ (fun l => Fm.encs (Fm.ups l (fr + bk) d)) (as.drop x.1.toNat) = (fun l => Fm.encs (Fm.ups l (fr + bk) d)) as) (fun x => as.length - x.1.toNat) (0, []) (by cbv) ⟨by omega, by omega, rfl, by simp⟩ (by cbv) ?_
    rintro ⟨j, n⟩ ⟨hj1, hj2, hj3, hj4⟩
    dsimp only at hj1 hj2 hj3 hj4
    refine wp_at (by cbv) ?_
    by_cases hj : j < as.length
    · obtain ⟨a, ha, hd, he⟩ := Fm.at_ (as := as) (n := j) (by omega)
      rw [hr] at he
      rw [hd] at hj4
      simp only [Fm.ups, Fm.encs] at hj4
      have hc := ih a ha (fr + bk) d (Fm.lows_mem hlow.2 ha) (by have := Fm.size_mem ha; omega) hdd (by have := Fm.size_mem ha; omega)
      generalize Fm.enc a = row at hc he
      generalize Fm.enc (Fm.up a (fr + bk) d) = row' at hc hj4
      repeat' (first | refine dS (fun zs hzs => ?_) | refine dg ?_ | refine dN ?_ | refine dD ?_ | refine aN ?_ | refine wS ?_ | refine wG ?_ | refine wD ?_ | refine wK ?_ | refine wR ?_ | refine wE ?_ | refine wB ?_ | refine aR ?_ | refine aE ?_ | refine lN ?_ | refine lR ?_ | refine lE ?_ | refine lO ?_ | refine cT ?_ | refine cF ?_ | refine gO ?_ | refine gU ?_ | refine gF ?_ | refine da (fun z hz => ?_) | refine dl (fun z hz => ?_) | refine dc ?_ | refine dv ?_ | refine di ?_ | refine dp (fun zs hzs => ?_) | (refine dq (fun hq => ?_) (fun hq => ?_) <;> first | (exfalso; omega) | skip) | refine yR ?_ | refine yE ?_ | refine dI ?_ | refine dO ?_ | refine dA ?_ | refine dM (fun z hz => ?_) | refine dX (fun z hz => ?_) | refine dR (fun z hz => ?_) | refine dL ?_)
      rw [← hz] at hc
      repeat' (first | refine dS (fun zs hzs => ?_) | refine dg ?_ | refine dN ?_ | refine dD ?_ | refine aN ?_ | refine wS ?_ | refine wG ?_ | refine wD ?_ | refine wK ?_ | refine wR ?_ | refine wE ?_ | refine wB ?_ | refine aR ?_ | refine aE ?_ | refine lN ?_ | refine lR ?_ | refine lE ?_ | refine lO ?_ | refine cT ?_ | refine cF ?_ | refine gO ?_ | refine gU ?_ | refine gF ?_ | refine da (fun z hz => ?_) | refine dl (fun z hz => ?_) | refine dc ?_ | refine dv ?_ | refine di ?_ | refine dp (fun zs hzs => ?_) | (refine dq (fun hq => ?_) (fun hq => ?_) <;> first | (exfalso; omega) | skip) | refine yR ?_ | refine yE ?_ | refine dI ?_ | refine dO ?_ | refine dA ?_ | refine dM (fun z hz => ?_) | refine dX (fun z hz => ?_) | refine dR (fun z hz => ?_) | refine dL ?_)
      exact again_normal (z, zs) ⟨by dsimp only; omega, by dsimp only; omega, by dsimp only; rw [hzs]; simp; omega, by dsimp only; rw [hzs, hz, List.append_assoc]; exact hj4⟩ (by dsimp only; omega) (by cbv)
    · rw [drop_all hj1 (by omega)] at hj4
      simp only [Fm.ups, Fm.encs, List.append_nil] at hj4
      repeat' (first | refine dS (fun zs hzs => ?_) | refine dg ?_ | refine dN ?_ | refine dD ?_ | refine aN ?_ | refine wS ?_ | refine wG ?_ | refine wD ?_ | refine wK ?_ | refine wR ?_ | refine wE ?_ | refine wB ?_ | refine aR ?_ | refine aE ?_ | refine lN ?_ | refine lR ?_ | refine lE ?_ | refine lO ?_ | refine cT ?_ | refine cF ?_ | refine gO ?_ | refine gU ?_ | refine gF ?_ | refine da (fun z hz => ?_) | refine dl (fun z hz => ?_) | refine dc ?_ | refine dv ?_ | refine di ?_ | refine dp (fun zs hzs => ?_) | (refine dq (fun hq => ?_) (fun hq => ?_) <;> first | (exfalso; omega) | skip) | refine yR ?_ | refine yE ?_ | refine dI ?_ | refine dO ?_ | refine dA ?_ | refine dM (fun z hz => ?_) | refine dX (fun z hz => ?_) | refine dR (fun z hz => ?_) | refine dL ?_)
      rw [hoas] at hj4
      (refine fin_ret ?_; rw [← hj4]; cbv)
end
end Eng
