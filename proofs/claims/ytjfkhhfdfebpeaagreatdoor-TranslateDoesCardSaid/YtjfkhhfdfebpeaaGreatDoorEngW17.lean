/- The reference's translation of formulas: the whole; the law's test. -/
import Derived.Test.YtjfkhhfdfebpeaaGreatDoorEngT
import Derived.Test.YtjfkhhfdfebpeaaGreatDoorEngTab
import Derived.Test.YtjfkhhfdfebpeaaGreatDoorEngW15
import Derived.Test.YtjfkhhfdfebpeaaGreatDoorEngW16
set_option linter.all false
set_option linter.unusedVariables false
set_option linter.unusedSimpArgs false
set_option maxRecDepth 100000
set_option maxHeartbeats 4000000
namespace Eng
open Go
section
variable {R : RProg} {G : Nat → AV}
def FmT27 (R : RProg) (G : Nat → AV) (f : Fm) : Prop := ∀ (a : Fm) (m : Int), f.ok = true → f.nu = true → f.size < 2 ^ 14 → a.size < 2 ^ 14 → a.low m → m + f.size < 2 ^ 40 →
  (Lim R G).call 27 [.st 5 a.enc, .st 5 f.enc] [] = some (.st 5 (f.Tr a).enc, [])
theorem call67 (hR : Has R G c67) (t : Ty) (c : Fm) (ih : FmT27 R G c) (a : Fm) (m : Int) (h1 : c.ok = true) (h2 : c.nu = true) (h3 : t.size + c.size + 1 < 2 ^ 14) (h4 : a.size < 2 ^ 14) (h5 : a.low m) (h6 : m + c.size + 1 < 2 ^ 40) :
    (Lim R G).call 67 [.st 5 a.enc, .st 5 (Fm.enc (.mk 5 t [] [c]))] [] = some (.st 5 (Fm.q 4 t (Fm.imp (c.Tr a.up1) a.up1)).enc, []) := by
  have hu : a.up1.size = a.size := Fm.up_size _ _
  have hT := Fm.Tr_small (f := c) (a := a.up1) (by omega) (by omega)
  have hT2 := Fm.Tr_size c a.up1 hu
  have hT3 : c.size * (2 * a.size + 8) ≤ 2 ^ 14 * (2 * 2 ^ 14 + 8) := Nat.mul_le_mul (by omega) (by omega)
  have c1 := call66 (hR.sub (by kernel_rfl)) a (Fm.low_mono (by omega) a h5) (by omega)
  have c2 := ih a.up1 (m + 1) h1 h2 (by omega) (by omega) (Fm.up_low (by omega) a h5 0) (by omega)
  have c3 := call65 (hR.sub (by kernel_rfl)) (c.Tr a.up1) a.up1 (by omega) (by omega)
  have c4 := call19 (hR.sub (by kernel_rfl)) 4 t (Fm.imp (c.Tr a.up1) a.up1) (by omega) (by rw [Fm.imp_size]; omega)
  clear ih
  rw [Ty.enc_eq] at c4
  refine call_of (hR.at 67 (by kernel_rfl) tab67) (by rfl) ?_
  simp only [Fm.enc, Fm.encs, Tm.encs]
  generalize Ty.encs t.args = rt at *
  generalize t.kind = tk at *
  generalize c.enc = rc at *
  generalize a.enc = ra at *
  generalize (Fm.q 4 t (Fm.imp (c.Tr a.up1) a.up1)).enc = rf at *
  generalize (Fm.imp (c.Tr a.up1) a.up1).enc = re at *
  generalize a.up1.enc = rb at *
  generalize (c.Tr a.up1).enc = rd at *
  repeat' (first | refine dS (fun zs hzs => ?_) | refine dg ?_ | refine dN ?_ | refine dD ?_ | refine aN ?_ | refine wS ?_ | refine wG ?_ | refine wD ?_ | refine wK ?_ | refine wR ?_ | refine wE ?_ | refine wB ?_ | refine aR ?_ | refine aE ?_ | refine lN ?_ | refine lR ?_ | refine lE ?_ | refine lO ?_ | refine cT ?_ | refine cF ?_ | refine gO ?_ | refine gU ?_ | refine gF ?_ | refine da (fun z hz => ?_) | refine dl (fun z hz => ?_) | refine dc ?_ | refine dv ?_ | refine di ?_ | refine dp (fun zs hzs => ?_) | (refine dq (fun hq => ?_) (fun hq => ?_) <;> first | (exfalso; omega) | skip) | refine yR ?_ | refine yE ?_ | refine dI ?_ | refine dO ?_ | refine dA ?_ | refine dM (fun z hz => ?_) | refine dX (fun z hz => ?_) | refine dR (fun z hz => ?_) | refine dL ?_)
  (refine fin_ret ?_; cbv)
theorem call27 (hR : Has R G c27) : ∀ f, FmT27 R G f := by
  refine Fm.ind fun k t ts as ih a m ho hnu hf ha hlow hm => ?_
  obtain ⟨hk6, hk7, hnus⟩ := Fm.nu_mk hnu
  obtain ⟨_, _, _, hoks⟩ := Fm.ok_mk ho
  have hsm := Fm.Tr_small hf ha
  rcases Fm.shape ho with ⟨rfl, rfl, ⟨x, y, rfl⟩, rfl⟩ | ⟨hk, rfl, rfl, c, d, rfl⟩ | ⟨hk, _, rfl, c, rfl⟩
  · clear ih
    simp only [Fm.Tr] at *
    rw [Fm.imp_size] at hsm
    have c1 := call65 (hR.sub (by kernel_rfl)) _ a (show (Fm.mk 1 (.mk 0 []) [x, y] []).size < 2 ^ 31 by omega) (by omega)
    have c2 := call65 (hR.sub (by kernel_rfl)) _ a (show (Fm.imp (Fm.mk 1 (.mk 0 []) [x, y] []) a).size < 2 ^ 31 by omega) (by omega)
    refine call_of (hR.at 27 (by kernel_rfl) tab27) (by rfl) ?_
    generalize hr1 : (Fm.imp (Fm.mk 1 (.mk 0 []) [x, y] []) a).enc = r1 at *
    generalize hr2 : (Fm.imp (Fm.imp (Fm.mk 1 (.mk 0 []) [x, y] []) a) a).enc = r2 at *
    simp only [Fm.enc, Fm.encs, Tm.encs, Ty.kind_mk, Ty.args_mk, Ty.encs_nil] at c1 c2 ⊢
    generalize a.enc = ra at *
    generalize x.enc = rx at *
    generalize y.enc = ry at *
    repeat' (first | refine dS (fun zs hzs => ?_) | refine dg ?_ | refine dN ?_ | refine dD ?_ | refine aN ?_ | refine wS ?_ | refine wG ?_ | refine wD ?_ | refine wK ?_ | refine wR ?_ | refine wE ?_ | refine wB ?_ | refine aR ?_ | refine aE ?_ | refine lN ?_ | refine lR ?_ | refine lE ?_ | refine lO ?_ | refine cT ?_ | refine cF ?_ | refine gO ?_ | refine gU ?_ | refine gF ?_ | refine da (fun z hz => ?_) | refine dl (fun z hz => ?_) | refine dc ?_ | refine dv ?_ | refine di ?_ | refine dp (fun zs hzs => ?_) | (refine dq (fun hq => ?_) (fun hq => ?_) <;> first | (exfalso; omega) | skip) | refine yR ?_ | refine yE ?_ | refine dI ?_ | refine dO ?_ | refine dA ?_ | refine dM (fun z hz => ?_) | refine dX (fun z hz => ?_) | refine dR (fun z hz => ?_) | refine dL ?_)
    (refine fin_ret ?_; cbv)
  · obtain ⟨hoc, hod, _⟩ : c.ok = true ∧ d.ok = true ∧ True := by simpa [Fm.oks] using hoks
    obtain ⟨hnc, hnd2, _⟩ : c.nu = true ∧ d.nu = true ∧ True := by simpa [Fm.nus] using hnus
    simp only [Fm.size, Fm.sizes] at hf hm
    have c1 := ih c (by simp) a m hoc hnc (by omega) ha hlow (by omega)
    have c2 := ih d (by simp) a m hod hnd2 (by omega) ha hlow (by omega)
    clear ih
    simp only [Fm.Tr] at *
    have c3 := call14 (hR.sub (by kernel_rfl)) k (c.Tr a) (d.Tr a) (Fm.Tr_small (by omega) ha) (Fm.Tr_small (by omega) ha)
    refine call_of (hR.at 27 (by kernel_rfl) tab27) (by rfl) ?_
    simp only [Fm.enc, Fm.encs, Tm.encs, Ty.kind_mk, Ty.args_mk, Ty.encs_nil]
    generalize (Fm.two k (c.Tr a) (d.Tr a)).enc = ro at *
    generalize (c.Tr a).enc = r1 at *
    generalize (d.Tr a).enc = r2 at *
    generalize a.enc = ra at *
    generalize c.enc = rc at *
    generalize d.enc = rd at *
    rcases hk with rfl | rfl
    · repeat' (first | refine dS (fun zs hzs => ?_) | refine dg ?_ | refine dN ?_ | refine dD ?_ | refine aN ?_ | refine wS ?_ | refine wG ?_ | refine wD ?_ | refine wK ?_ | refine wR ?_ | refine wE ?_ | refine wB ?_ | refine aR ?_ | refine aE ?_ | refine lN ?_ | refine lR ?_ | refine lE ?_ | refine lO ?_ | refine cT ?_ | refine cF ?_ | refine gO ?_ | refine gU ?_ | refine gF ?_ | refine da (fun z hz => ?_) | refine dl (fun z hz => ?_) | refine dc ?_ | refine dv ?_ | refine di ?_ | refine dp (fun zs hzs => ?_) | (refine dq (fun hq => ?_) (fun hq => ?_) <;> first | (exfalso; omega) | skip) | refine yR ?_ | refine yE ?_ | refine dI ?_ | refine dO ?_ | refine dA ?_ | refine dM (fun z hz => ?_) | refine dX (fun z hz => ?_) | refine dR (fun z hz => ?_) | refine dL ?_)
      (refine fin_ret ?_; cbv)
    · repeat' (first | refine dS (fun zs hzs => ?_) | refine dg ?_ | refine dN ?_ | refine dD ?_ | refine aN ?_ | refine wS ?_ | refine wG ?_ | refine wD ?_ | refine wK ?_ | refine wR ?_ | refine wE ?_ | refine wB ?_ | refine aR ?_ | refine aE ?_ | refine lN ?_ | refine lR ?_ | refine lE ?_ | refine lO ?_ | refine cT ?_ | refine cF ?_ | refine gO ?_ | refine gU ?_ | refine gF ?_ | refine da (fun z hz => ?_) | refine dl (fun z hz => ?_) | refine dc ?_ | refine dv ?_ | refine di ?_ | refine dp (fun zs hzs => ?_) | (refine dq (fun hq => ?_) (fun hq => ?_) <;> first | (exfalso; omega) | skip) | refine yR ?_ | refine yE ?_ | refine dI ?_ | refine dO ?_ | refine dA ?_ | refine dM (fun z hz => ?_) | refine dX (fun z hz => ?_) | refine dR (fun z hz => ?_) | refine dL ?_)
      (refine fin_ret ?_; cbv)
  · obtain ⟨hoc, _⟩ : c.ok = true ∧ True := by simpa [Fm.oks] using hoks
    obtain ⟨hnc, _⟩ : c.nu = true ∧ True := by simpa [Fm.nus] using hnus
    simp only [Fm.size, Fm.sizes, Tm.sizes] at hf hm
    have hu : a.up1.size = a.size := Fm.up_size _ _
    rcases (show k = 4 ∨ k = 5 by omega) with rfl | rfl
    · have c1 := call66 (hR.sub (by kernel_rfl)) a (Fm.low_mono (by omega) a hlow) (by omega)
      have c2 := ih c (by simp) a.up1 (m + 1) hoc hnc (by omega) (by omega) (Fm.up_low (by omega) a hlow 0) (by omega)
      clear ih
      have c3 := call19 (hR.sub (by kernel_rfl)) 4 t (c.Tr a.up1) (by omega) (Fm.Tr_small (by omega) (by omega))
      simp only [Fm.Tr]
      rw [if_pos trivial]
      rw [Ty.enc_eq] at c3
      refine call_of (hR.at 27 (by kernel_rfl) tab27) (by rfl) ?_
      simp only [Fm.enc, Fm.encs, Tm.encs]
      generalize (Fm.q 4 t (c.Tr a.up1)).enc = ro at *
      generalize (c.Tr a.up1).enc = r1 at *
      generalize a.up1.enc = r2 at *
      generalize a.enc = ra at *
      generalize c.enc = rc at *
      generalize Ty.encs t.args = rt at *
      generalize t.kind = tk at *
      repeat' (first | refine dS (fun zs hzs => ?_) | refine dg ?_ | refine dN ?_ | refine dD ?_ | refine aN ?_ | refine wS ?_ | refine wG ?_ | refine wD ?_ | refine wK ?_ | refine wR ?_ | refine wE ?_ | refine wB ?_ | refine aR ?_ | refine aE ?_ | refine lN ?_ | refine lR ?_ | refine lE ?_ | refine lO ?_ | refine cT ?_ | refine cF ?_ | refine gO ?_ | refine gU ?_ | refine gF ?_ | refine da (fun z hz => ?_) | refine dl (fun z hz => ?_) | refine dc ?_ | refine dv ?_ | refine di ?_ | refine dp (fun zs hzs => ?_) | (refine dq (fun hq => ?_) (fun hq => ?_) <;> first | (exfalso; omega) | skip) | refine yR ?_ | refine yE ?_ | refine dI ?_ | refine dO ?_ | refine dA ?_ | refine dM (fun z hz => ?_) | refine dX (fun z hz => ?_) | refine dR (fun z hz => ?_) | refine dL ?_)
      (refine fin_ret ?_; cbv)
    · have c1 := call67 (hR.sub (by kernel_rfl)) t c (ih c (by simp)) a m hoc hnc (by omega) ha hlow (by omega)
      clear ih
      simp only [Fm.Tr] at hsm ⊢
      rw [if_neg (by decide)] at hsm ⊢
      generalize Fm.q 4 t (Fm.imp (c.Tr a.up1) a.up1) = pr at *
      rw [Fm.imp_size] at hsm
      have c2 := call65 (hR.sub (by kernel_rfl)) pr a (by omega) (by omega)
      refine call_of (hR.at 27 (by kernel_rfl) tab27) (by rfl) ?_
      simp only [Fm.enc, Fm.encs, Tm.encs] at c1 ⊢
      generalize (Fm.imp pr a).enc = ro at *
      generalize pr.enc = r1 at *
      generalize a.enc = ra at *
      generalize c.enc = rc at *
      generalize Ty.encs t.args = rt at *
      generalize t.kind = tk at *
      repeat' (first | refine dS (fun zs hzs => ?_) | refine dg ?_ | refine dN ?_ | refine dD ?_ | refine aN ?_ | refine wS ?_ | refine wG ?_ | refine wD ?_ | refine wK ?_ | refine wR ?_ | refine wE ?_ | refine wB ?_ | refine aR ?_ | refine aE ?_ | refine lN ?_ | refine lR ?_ | refine lE ?_ | refine lO ?_ | refine cT ?_ | refine cF ?_ | refine gO ?_ | refine gU ?_ | refine gF ?_ | refine da (fun z hz => ?_) | refine dl (fun z hz => ?_) | refine dc ?_ | refine dv ?_ | refine di ?_ | refine dp (fun zs hzs => ?_) | (refine dq (fun hq => ?_) (fun hq => ?_) <;> first | (exfalso; omega) | skip) | refine yR ?_ | refine yE ?_ | refine dI ?_ | refine dO ?_ | refine dA ?_ | refine dM (fun z hz => ?_) | refine dX (fun z hz => ?_) | refine dR (fun z hz => ?_) | refine dL ?_)
      (refine fin_ret ?_; cbv)
theorem call10 (hR : Has R G c10) (a f : Fm) (ha : a.size < 2 ^ 14) (hf : f.size < 2 ^ 14) : (Lim R G).call 10 [.st 5 a.enc, .st 5 f.enc] [] = some (.tup [.st 5 (Fm.enc (if a.lookE f = 0 then f.Tr a else Fm.zero)), .pl (.int .i64 (a.lookE f))], []) := by
  have h1 := call26 (hR.sub (by kernel_rfl)) a f (by omega) (by omega)
  have h3 : a.lookE f = 0 → _ := fun h => by
    obtain ⟨e1, e2, e3, e4, _⟩ := Fm.lookE_zero h
    have hok := (Fm.err_ok e1).1
    exact call27 (hR.sub (by kernel_rfl)) f a 536870912 (Fm.err_ok e2).1 e3 hf ha (Fm.low_of a hok e4) (by omega)
  have h4 := call28 (hR.sub (by kernel_rfl)) (f.Tr a) (Fm.Tr_small hf ha)
  refine call_of (hR.at 10 (by kernel_rfl) tab10) (by rfl) ?_
  by_cases e : a.lookE f = 0
  · have h5 := h3 e
    rw [if_pos e]
    rw [e] at h1 ⊢
    clear h3
    generalize a.enc = ra at *
    generalize f.enc = rf at *
    generalize (f.Tr a).enc = ro at *
    repeat' (first | refine dS (fun zs hzs => ?_) | refine dg ?_ | refine dN ?_ | refine dD ?_ | refine aN ?_ | refine wS ?_ | refine wG ?_ | refine wD ?_ | refine wK ?_ | refine wR ?_ | refine wE ?_ | refine wB ?_ | refine aR ?_ | refine aE ?_ | refine lN ?_ | refine lR ?_ | refine lE ?_ | refine lO ?_ | refine cT ?_ | refine cF ?_ | refine gO ?_ | refine gU ?_ | refine gF ?_ | refine da (fun z hz => ?_) | refine dl (fun z hz => ?_) | refine dc ?_ | refine dv ?_ | refine di ?_ | refine dp (fun zs hzs => ?_) | (refine dq (fun hq => ?_) (fun hq => ?_) <;> first | (exfalso; omega) | skip) | refine yR ?_ | refine yE ?_ | refine dI ?_ | refine dO ?_ | refine dA ?_ | refine dM (fun z hz => ?_) | refine dX (fun z hz => ?_) | refine dR (fun z hz => ?_) | refine dL ?_)
    (refine fin_ret ?_; cbv)
  · rw [if_neg e]
    simp only [Fm.zero, Fm.enc, Ty.kind_mk, Ty.args_mk, Ty.encs_nil, Tm.encs, Fm.encs]
    clear h3 h4
    generalize a.enc = ra at *
    generalize f.enc = rf at *
    generalize a.lookE f = er at *
    repeat' (first | refine dS (fun zs hzs => ?_) | refine dg ?_ | refine dN ?_ | refine dD ?_ | refine aN ?_ | refine wS ?_ | refine wG ?_ | refine wD ?_ | refine wK ?_ | refine wR ?_ | refine wE ?_ | refine wB ?_ | refine aR ?_ | refine aE ?_ | refine lN ?_ | refine lR ?_ | refine lE ?_ | refine lO ?_ | refine cT ?_ | refine cF ?_ | refine gO ?_ | refine gU ?_ | refine gF ?_ | refine da (fun z hz => ?_) | refine dl (fun z hz => ?_) | refine dc ?_ | refine dv ?_ | refine di ?_ | refine dp (fun zs hzs => ?_) | (refine dq (fun hq => ?_) (fun hq => ?_) <;> first | (exfalso; omega) | skip) | refine yR ?_ | refine yE ?_ | refine dI ?_ | refine dO ?_ | refine dA ?_ | refine dM (fun z hz => ?_) | refine dX (fun z hz => ?_) | refine dR (fun z hz => ?_) | refine dL ?_)
    (refine fin_ret ?_; cbv)
end
end Eng
