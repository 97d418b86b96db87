/- The law TranslateDoes. -/
import Derived.Test.YtjfkhhfdfebpeaaGreatDoorEngT
import Derived.Test.YtjfkhhfdfebpeaaGreatDoorEngTab
import Derived.Test.YtjfkhhfdfebpeaaGreatDoorEngW1
import Derived.Test.YtjfkhhfdfebpeaaGreatDoorEngW13
import Derived.Test.YtjfkhhfdfebpeaaGreatDoorEngW16
import Derived.Test.YtjfkhhfdfebpeaaGreatDoorEngW17
import Derived.Test.YtjfkhhfdfebpeaaGreatDoorEngW18
import Derived.Test.YtjfkhhfdfebpeaaGreatDoorEngW19
import Derived.Test.YtjfkhhfdfebpeaaGreatDoorEngW27
set_option linter.all false
set_option linter.unusedVariables false
set_option linter.unusedSimpArgs false
set_option maxRecDepth 100000
set_option maxHeartbeats 20000000
namespace Eng
open Go
section
variable {R : RProg} {G : Nat → AV}
theorem FmSp7.mono {l : List Int} {n b b' m m' : Nat} (h : FmSp7 R G l n b m) (hb : b' ≤ b) (hm : m ≤ m') : FmSp7 R G l n b' m' := fun d r a hd hr ha => by
  obtain ⟨f, a', h1, h2, h3, h4⟩ := h d r a hd (hr.mono hb) ha
  exact ⟨f, a', h1, ⟨h2.1, by omega⟩, h3.mono hm, h4⟩
theorem call7z0 (hR : Has R G c7) (l : List Int) (hl : l.length ≤ 500) : FmSp7 R G l 0 380 782 := call7g (hR.sub (by kernel_rfl)) l hl 0 380 386 (by omega) (by omega) (.inl rfl) (by omega)
theorem call7z1 (hR : Has R G c7) (l : List Int) (hl : l.length ≤ 500) : FmSp7 R G l 1 379 1574 := call7g (hR.sub (by kernel_rfl)) l hl 1 379 782 (by omega) (by omega) (.inr (call7z0 (hR.sub (by kernel_rfl)) l hl)) (by omega)
theorem call7z2 (hR : Has R G c7) (l : List Int) (hl : l.length ≤ 500) : FmSp7 R G l 2 378 3158 := call7g (hR.sub (by kernel_rfl)) l hl 2 378 1574 (by omega) (by omega) (.inr (call7z1 (hR.sub (by kernel_rfl)) l hl)) (by omega)
theorem call7z3 (hR : Has R G c7) (l : List Int) (hl : l.length ≤ 500) : FmSp7 R G l 3 377 6326 := call7g (hR.sub (by kernel_rfl)) l hl 3 377 3158 (by omega) (by omega) (.inr (call7z2 (hR.sub (by kernel_rfl)) l hl)) (by omega)
theorem FmSp8.mono {l : List Int} {n b b' m m' : Nat} (h : FmSp8 R G l n b m) (hb : b' ≤ b) (hm : m ≤ m') : FmSp8 R G l n b' m' := fun d r a hd hr ha => by
  obtain ⟨f, a', h1, h2, h3, h4⟩ := h d r a hd (hr.mono hb) ha
  exact ⟨f, a', h1, ⟨h2.1, by omega⟩, h3.mono hm, h4⟩
theorem call8z0 (hR : Has R G c8) (l : List Int) (hl : l.length ≤ 500) : FmSp8 R G l 0 380 782 := call8g (hR.sub (by kernel_rfl)) l hl 0 380 386 (by omega) (by omega) (.inl rfl) (by omega)
theorem call8z1 (hR : Has R G c8) (l : List Int) (hl : l.length ≤ 500) : FmSp8 R G l 1 379 1574 := call8g (hR.sub (by kernel_rfl)) l hl 1 379 782 (by omega) (by omega) (.inr (call8z0 (hR.sub (by kernel_rfl)) l hl)) (by omega)
theorem call8z2 (hR : Has R G c8) (l : List Int) (hl : l.length ≤ 500) : FmSp8 R G l 2 378 3158 := call8g (hR.sub (by kernel_rfl)) l hl 2 378 1574 (by omega) (by omega) (.inr (call8z1 (hR.sub (by kernel_rfl)) l hl)) (by omega)
theorem call8z3 (hR : Has R G c8) (l : List Int) (hl : l.length ≤ 500) : FmSp8 R G l 3 377 6326 := call8g (hR.sub (by kernel_rfl)) l hl 3 377 3158 (by omega) (by omega) (.inr (call8z2 (hR.sub (by kernel_rfl)) l hl)) (by omega)
def saneA : Fm := Fm.eq (Tm.numl 0) (Tm.numl 0)
def saneE : Fm := Fm.eq (Tm.numl 1) (Tm.numl 2)
theorem call2 (hR : Has R G c2) : (Lim R G).call 2 [] [] = some (.pl (.bool (true)), []) := by
  have h1 := call12 (hR.sub (by kernel_rfl)) 0 (by omega)
  have h2 := call12 (hR.sub (by kernel_rfl)) 1 (by omega)
  have h3 := call12 (hR.sub (by kernel_rfl)) 2 (by omega)
  have h4 := call13 (hR.sub (by kernel_rfl)) (Tm.numl 0) (Tm.numl 0) (by decide) (by decide)
  have h5 := call13 (hR.sub (by kernel_rfl)) (Tm.numl 1) (Tm.numl 2) (by decide) (by decide)
  rw [show Fm.eq (Tm.numl 0) (Tm.numl 0) = saneA from rfl] at h4
  rw [show Fm.eq (Tm.numl 1) (Tm.numl 2) = saneE from rfl] at h5
  have h6 := call9 (hR.sub (by kernel_rfl)) saneE saneA (by decide) (by decide)
  rw [show saneE.lookE saneA = 0 by decide, if_pos rfl] at h6
  have h7 := call14 (hR.sub (by kernel_rfl)) 3 saneA saneE (by decide) (by decide)
  have h8 := call14 (hR.sub (by kernel_rfl)) 3 (Fm.two 3 saneA saneE) saneE (by decide) (by decide)
  have h9 := call11 (hR.sub (by kernel_rfl)) (saneA.Tr saneE) (Fm.two 3 (Fm.two 3 saneA saneE) saneE) (by decide) (by decide)
  rw [show (saneA.Tr saneE).same (Fm.two 3 (Fm.two 3 saneA saneE) saneE) = true by decide] at h9
  rw [show ((0 : Nat) : Int) = 0 from rfl] at h1
  rw [show ((1 : Nat) : Int) = 1 from rfl] at h2
  rw [show ((2 : Nat) : Int) = 2 from rfl] at h3
  generalize Fm.two 3 (Fm.two 3 saneA saneE) saneE = f1 at *
  generalize Fm.two 3 saneA saneE = f2 at *
  generalize saneA.Tr saneE = f3 at *
  generalize saneA = f4 at *
  generalize saneE = f5 at *
  generalize Tm.numl 0 = t1 at *
  generalize Tm.numl 1 = t2 at *
  generalize Tm.numl 2 = t3 at *
  refine call_of (hR.at 2 (by kernel_rfl) tab2) (by rfl) ?_
  generalize Fm.enc = fe at *
  generalize Tm.enc = te at *
  repeat' (first | refine dS (fun zs hzs => ?_) | refine dg ?_ | refine dN ?_ | refine dD ?_ | refine aN ?_ | refine wS ?_ | refine wG ?_ | refine wD ?_ | refine wK ?_ | refine wR ?_ | refine wE ?_ | refine wB ?_ | refine aR ?_ | refine aE ?_ | refine lN ?_ | refine lR ?_ | refine lE ?_ | refine lO ?_ | refine cT ?_ | refine cF ?_ | refine gO ?_ | refine gU ?_ | refine gF ?_ | refine da (fun z hz => ?_) | refine dl (fun z hz => ?_) | refine dc ?_ | refine dv ?_ | refine di ?_ | refine dp (fun zs hzs => ?_) | (refine dq (fun hq => ?_) (fun hq => ?_) <;> first | (exfalso; omega) | skip) | refine yR ?_ | refine yE ?_ | refine dI ?_ | refine dO ?_ | refine dA ?_ | refine dM (fun z hz => ?_) | refine dX (fun z hz => ?_) | refine dR (fun z hz => ?_) | refine dL ?_)
  (refine fin_ret ?_; cbv)
theorem CtxMade.ok {r : List Ty} (h : CtxMade 3 3 r) : CtxOk 377 r := ⟨by have := h.1; omega, h.2⟩
theorem call1 (hR : Has R G c1) (l : List Int) (raw more : Fm) (h1 : raw.wf) (h2 : more.wf) : (Lim R G).call 1 [.pl (.sl 1 (l.map fun n => [.int .i64 n])), .st 5 raw.enc, .st 5 more.enc] [] = some (.pl (.bool (true)), []) := by
  have e2 := call2 (hR.sub (by kernel_rfl))
  have e3 := call3 (hR.sub (by kernel_rfl)) (l.map fun n => [.int .i64 n])
  have e4 := call4 (hR.sub (by kernel_rfl)) raw h1
  have e4b := call4 (hR.sub (by kernel_rfl)) more h2
  have e5 := call5 (hR.sub (by kernel_rfl)) (l.map fun n => [.int .i64 n])
  have hb1 := Fm.cnt_b raw 20000
  have hb2 := Fm.cnt_b more 20000
  have hs1 := Fm.cnt_size raw 20000
  have hs2 := Fm.cnt_size more 20000
  have s6 : l.length ≤ 500 → ∃ (r : List Ty) (a' : Int), (Lim R G).call 6 [.ptr 0 0] [dk l 0] = some (.pl (.sl 2 (ctxR r)), [dk l a']) ∧ (0 ≤ a' ∧ a' ≤ 500) ∧ CtxMade 3 3 r := fun hl => call6 (hR.sub (by kernel_rfl)) l hl 0 (by omega)
  have s7 := fun (hl : l.length ≤ 500) => call7z3 (hR.sub (by kernel_rfl)) l hl
  have s8 := fun (hl : l.length ≤ 500) => call8z2 (hR.sub (by kernel_rfl)) l hl
  have e9 : ∀ x y : Fm, x.size < 2 ^ 14 → y.size < 2 ^ 14 → _ := fun x y h1 h2 => call9 (hR.sub (by kernel_rfl)) x y h1 h2
  have e10 : ∀ x y : Fm, x.size < 2 ^ 14 → y.size < 2 ^ 14 → _ := fun x y h1 h2 => call10 (hR.sub (by kernel_rfl)) x y h1 h2
  have e11 : ∀ x y : Fm, x.size < 2 ^ 14 → y.size < 2 ^ 14 → (Lim R G).call 11 [.st 5 (Fm.enc (if x.lookE y = 0 then y.Tr x else Fm.zero)), .st 5 (Fm.enc (if x.lookE y = 0 then y.Tr x else Fm.zero))] [] = some (.pl (.bool (true)), []) := fun x y h1 h2 => by
    have hs : (if x.lookE y = 0 then y.Tr x else Fm.zero).size < 2 ^ 31 := by
      split
      · exact Fm.Tr_small h2 h1
      · decide
    rw [call11 (hR.sub (by kernel_rfl)) _ _ hs hs, Fm.same_refl]
  by_cases hl : l.length ≤ 500
  · have s6 := s6 hl
    have s7 := s7 hl
    have s8 := s8 hl
    rw [show (l.map fun n => [PV.int .i64 n]).length = l.length by simp, decide_eq_true hl] at e3
    refine call_of (hR.at 1 (by kernel_rfl) tab1) (by rfl) ?_
    unfold dk at *
    unfold FmSp7 at s7
    unfold FmSp8 at s8
    unfold dk at *
    generalize (l.map fun n => [PV.int .i64 n]) = rs at *
    generalize raw.cnt 20000 = c1 at *
    generalize more.cnt 20000 = c2 at *
    generalize ctxR = cx at *
    generalize Fm.enc = fe at *
    repeat' (first | refine dS (fun zs hzs => ?_) | refine dg ?_ | refine dN ?_ | refine dD ?_ | refine aN ?_ | refine wS ?_ | refine wG ?_ | refine wD ?_ | refine wK ?_ | refine wR ?_ | refine wE ?_ | refine wB ?_ | refine aR ?_ | refine aE ?_ | refine lN ?_ | refine lR ?_ | refine lE ?_ | refine lO ?_ | refine cT ?_ | refine cF ?_ | refine gO ?_ | refine gU ?_ | refine gF ?_ | refine da (fun z hz => ?_) | refine dl (fun z hz => ?_) | refine dc ?_ | refine dv ?_ | refine di ?_ | refine dp (fun zs hzs => ?_) | (refine dq (fun hq => ?_) (fun hq => ?_) <;> first | (exfalso; omega) | skip) | refine yR ?_ | refine yE ?_ | refine dI ?_ | refine dO ?_ | refine dA ?_ | refine dM (fun z hz => ?_) | refine dX (fun z hz => ?_) | refine dR (fun z hz => ?_) | refine dL ?_ | (refine dE (by cbv; fail_if_success intros) (by first | exact s6 | exact s7 _ _ _ (by omega) (CtxMade.ok (And.right (by assumption))) (by omega)) ?_; intro x a1 hx; refine ⟨_, _, _, by cbv, ?_⟩))
    · (refine fin_ret ?_; cbv)
    · (refine fin_ret ?_; cbv)
    · rename_i g ag hg xa aa hxa
      obtain ⟨ff, hff⟩ : ∃ ff, ff = x := ⟨_, rfl⟩
      subst hff
      have hz3 : z = 3 := by simpa using hz
      clear hz
      have hraw : raw.size < 2 ^ 14 := by omega
      have hmore : more.size < 2 ^ 14 := by omega
      have hget : ∀ j : Int, 0 ≤ j ∧ j < 3 → _ := fun j hj => @get3 Fm fe raw xa more (fun u => u.size < 2 ^ 14) hraw (by omega) hmore j hj
      generalize hxs : [fe raw, fe xa, fe more] = xs at *
      have hxl : xs.length = 3 := by rw [← hxs]; rfl
      refine wploop (σ := Int × Int) (fun x => [(49, .pl (.int .i64 (x.1)))]) (fun x => [(1096, .box 2 (.st 2 [.sl 1 rs, .int .i64 x.2]))]) (fun x => (0 ≤ x.1 ∧ x.1 ≤ 3) ∧ 0 ≤ x.2 ∧ x.2 ≤ 500) (fun x => 3 - x.1.toNat) (0, a1) (by cbv) ⟨by dsimp only; omega, by dsimp only; omega⟩ (by cbv) ?_
      rintro ⟨j, ad⟩ ⟨hj, had⟩
      dsimp only at hj had
      refine wp_at (by cbv) ?_
      by_cases hj3 : j < 3
      · obtain ⟨u, hu, he⟩ := hget j (by omega)
        repeat' (first | refine dS (fun zs hzs => ?_) | refine dg ?_ | refine dN ?_ | refine dD ?_ | refine aN ?_ | refine wS ?_ | refine wG ?_ | refine wD ?_ | refine wK ?_ | refine wR ?_ | refine wE ?_ | refine wB ?_ | refine aR ?_ | refine aE ?_ | refine lN ?_ | refine lR ?_ | refine lE ?_ | refine lO ?_ | refine cT ?_ | refine cF ?_ | refine gO ?_ | refine gU ?_ | refine gF ?_ | refine da (fun z hz => ?_) | refine dl (fun z hz => ?_) | refine dc ?_ | refine dv ?_ | refine di ?_ | refine dp (fun zs hzs => ?_) | (refine dq (fun hq => ?_) (fun hq => ?_) <;> first | (exfalso; omega) | skip) | refine yR ?_ | refine yE ?_ | refine dI ?_ | refine dO ?_ | refine dA ?_ | refine dM (fun z hz => ?_) | refine dX (fun z hz => ?_) | refine dR (fun z hz => ?_) | refine dL ?_ | (refine dE (by cbv; fail_if_success intros) (by first | exact s8 _ _ _ (by omega) (CtxOk.mono (CtxMade.ok (And.right (by assumption))) (by omega)) (by omega)) ?_; intro x a1 hx; refine ⟨_, _, _, by cbv, ?_⟩))
        have hz3 : z = 3 := by simpa using hz
        clear hz
        have hget2 : ∀ j : Int, 0 ≤ j ∧ j < 3 → _ := fun j hj => @get3 Fm fe more ff x (fun u => u.size < 2 ^ 14) hmore (by omega) (by omega) j hj
        generalize hys : [fe more, fe ff, fe x] = ys at *
        have hyl : ys.length = 3 := by rw [← hys]; rfl
        refine wploop (σ := Int) (fun x => [(60, .pl (.int .i64 (x)))]) (fun _ => []) (fun x => 0 ≤ x ∧ x ≤ 3) (fun x => 3 - x.toNat) 0 (by cbv) (by omega) (by cbv) ?_
        rintro k hk
        refine wp_at (by cbv) ?_
        by_cases hk3 : k < 3
        · obtain ⟨v, hv, he2⟩ := hget2 k (by omega)
          have c9 := e9 u v hu hv
          have c10 := e10 u v hu hv
          have c11 := e11 u v hu hv
          generalize (if u.lookE v = 0 then v.Tr u else Fm.zero) = res at *
          generalize u.lookE v = ev at *
          repeat' (first | refine dS (fun zs hzs => ?_) | refine dg ?_ | refine dN ?_ | refine dD ?_ | refine aN ?_ | refine wS ?_ | refine wG ?_ | refine wD ?_ | refine wK ?_ | refine wR ?_ | refine wE ?_ | refine wB ?_ | refine aR ?_ | refine aE ?_ | refine lN ?_ | refine lR ?_ | refine lE ?_ | refine lO ?_ | refine cT ?_ | refine cF ?_ | refine gO ?_ | refine gU ?_ | refine gF ?_ | refine da (fun z hz => ?_) | refine dl (fun z hz => ?_) | refine dc ?_ | refine dv ?_ | refine di ?_ | refine dp (fun zs hzs => ?_) | (refine dq (fun hq => ?_) (fun hq => ?_) <;> first | (exfalso; omega) | skip) | refine yR ?_ | refine yE ?_ | refine dI ?_ | refine dO ?_ | refine dA ?_ | refine dM (fun z hz => ?_) | refine dX (fun z hz => ?_) | refine dR (fun z hz => ?_) | refine dL ?_)
          exact again_normal z ⟨by omega, by omega⟩ (by omega) (by cbv)
        · repeat' (first | refine dS (fun zs hzs => ?_) | refine dg ?_ | refine dN ?_ | refine dD ?_ | refine aN ?_ | refine wS ?_ | refine wG ?_ | refine wD ?_ | refine wK ?_ | refine wR ?_ | refine wE ?_ | refine wB ?_ | refine aR ?_ | refine aE ?_ | refine lN ?_ | refine lR ?_ | refine lE ?_ | refine lO ?_ | refine cT ?_ | refine cF ?_ | refine gO ?_ | refine gU ?_ | refine gF ?_ | refine da (fun z hz => ?_) | refine dl (fun z hz => ?_) | refine dc ?_ | refine dv ?_ | refine di ?_ | refine dp (fun zs hzs => ?_) | (refine dq (fun hq => ?_) (fun hq => ?_) <;> first | (exfalso; omega) | skip) | refine yR ?_ | refine yE ?_ | refine dI ?_ | refine dO ?_ | refine dA ?_ | refine dM (fun z hz => ?_) | refine dX (fun z hz => ?_) | refine dR (fun z hz => ?_) | refine dL ?_)
          exact again_normal (z, a1) ⟨by dsimp only; omega, by dsimp only; omega⟩ (by dsimp only; omega) (by cbv)
      · repeat' (first | refine dS (fun zs hzs => ?_) | refine dg ?_ | refine dN ?_ | refine dD ?_ | refine aN ?_ | refine wS ?_ | refine wG ?_ | refine wD ?_ | refine wK ?_ | refine wR ?_ | refine wE ?_ | refine wB ?_ | refine aR ?_ | refine aE ?_ | refine lN ?_ | refine lR ?_ | refine lE ?_ | refine lO ?_ | refine cT ?_ | refine cF ?_ | refine gO ?_ | refine gU ?_ | refine gF ?_ | refine da (fun z hz => ?_) | refine dl (fun z hz => ?_) | refine dc ?_ | refine dv ?_ | refine di ?_ | refine dp (fun zs hzs => ?_) | (refine dq (fun hq => ?_) (fun hq => ?_) <;> first | (exfalso; omega) | skip) | refine yR ?_ | refine yE ?_ | refine dI ?_ | refine dO ?_ | refine dA ?_ | refine dM (fun z hz => ?_) | refine dX (fun z hz => ?_) | refine dR (fun z hz => ?_) | refine dL ?_)
        (refine fin_ret ?_; cbv)
  · rw [show (l.map fun n => [PV.int .i64 n]).length = l.length by simp, decide_eq_false hl] at e3
    refine call_of (hR.at 1 (by kernel_rfl) tab1) (by rfl) ?_
    generalize (l.map fun n => [PV.int .i64 n]) = rs at *
    generalize raw.cnt 20000 = c1 at *
    generalize more.cnt 20000 = c2 at *
    generalize raw.enc = r1 at *
    generalize more.enc = r2 at *
    repeat' (first | refine dS (fun zs hzs => ?_) | refine dg ?_ | refine dN ?_ | refine dD ?_ | refine aN ?_ | refine wS ?_ | refine wG ?_ | refine wD ?_ | refine wK ?_ | refine wR ?_ | refine wE ?_ | refine wB ?_ | refine aR ?_ | refine aE ?_ | refine lN ?_ | refine lR ?_ | refine lE ?_ | refine lO ?_ | refine cT ?_ | refine cF ?_ | refine gO ?_ | refine gU ?_ | refine gF ?_ | refine da (fun z hz => ?_) | refine dl (fun z hz => ?_) | refine dc ?_ | refine dv ?_ | refine di ?_ | refine dp (fun zs hzs => ?_) | (refine dq (fun hq => ?_) (fun hq => ?_) <;> first | (exfalso; omega) | skip) | refine yR ?_ | refine yE ?_ | refine dI ?_ | refine dO ?_ | refine dA ?_ | refine dM (fun z hz => ?_) | refine dX (fun z hz => ?_) | refine dR (fun z hz => ?_) | refine dL ?_)
    (refine fin_ret ?_; cbv)
end
end Eng
