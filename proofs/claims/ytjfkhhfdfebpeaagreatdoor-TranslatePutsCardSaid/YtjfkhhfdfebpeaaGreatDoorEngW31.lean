/- Free variables, in order. -/
import Derived.Test.YtjfkhhfdfebpeaaGreatDoorEngT
import Derived.Test.YtjfkhhfdfebpeaaGreatDoorEngTab
import Derived.Test.YtjfkhhfdfebpeaaGreatDoorEngW14
import Derived.Test.YtjfkhhfdfebpeaaGreatDoorEngW4
import Derived.Test.YtjfkhhfdfebpeaaGreatDoorEngZ
set_option linter.all false
set_option linter.unusedVariables false
set_option linter.unusedSimpArgs false
set_option maxRecDepth 100000
set_option maxHeartbeats 4000000
namespace Eng
open Go
section
variable {R : RProg} {G : Nat → AV}
theorem call126 (hR : Has R G c126) : ∀ (t : Tm) (d : Int) (ks : List Int), t.low (2 ^ 40) → t.size < 2 ^ 31 → (0 ≤ d ∧ d + t.size < 2 ^ 40) → (Lim R G).call 126 [.st 5 t.enc, .pl (.int .i64 (d)), .mp 0] [.set ks] = some (.tup [], [.set (t.mark d ks)]) := by
  refine Tm.ind fun k i t as ih d ks hlow hs hf => ?_
  have hcB := call104 (hR.sub (by kernel_rfl)) (Tm.mk k i t as)
  rw [show (Tm.mk k i t as).kind = k from rfl] at hcB
  have hb : 0 ≤ Tm.bnd k ∧ Tm.bnd k ≤ 1 := by unfold Tm.bnd; split <;> omega
  refine call_of (hR.at 126 (by kernel_rfl) tab126) (by rfl) ?_
  simp only [Tm.size, Tm.low] at hs hf hlow
  simp only [Tm.enc, Tm.mark] at hcB ⊢
  generalize hi2 : (if k = 1 ∧ d ≤ i then insK ks (i - d) else ks) = k2
  generalize Tm.bnd k = bd at hcB hb ⊢
  have hl := Tm.encs_len as
  have hl2 := Tm.sizes_len as
  generalize hr : Tm.encs as = rs at hl hcB ⊢
  generalize Ty.encs t.args = rt at hcB ⊢
  generalize t.kind = tk at hcB ⊢
  repeat' (first | refine uU ?_ | refine zm (fun k' hk' => ?_) | refine zr (fun q' hq' => ?_) | refine uV fun z hz => ?_ | refine uW fun zs hzs => ?_ | refine dq (fun hq => ?_) fun hq => ?_)
  · rename_i z1 hz1
    rw [if_pos (by omega), ← hz1, ← hk'] at hi2
    subst hi2
    obtain ⟨k2, hk2⟩ : ∃ k2, k2 = k' := ⟨k', rfl⟩
    subst hk2
    refine wploop (σ := Int × List Int) (fun x => [(25, .pl (.int .i64 x.1))]) (fun x => [(0, .set x.2)]) (fun x => 0 ≤ x.1 ∧ x.1 ≤ as.length ∧ Tm.marks (as.drop x.1.toNat) (d + bd) x.2 = Tm.marks as (d + bd) k2) (fun x => as.length - x.1.toNat) (0, k2) (by cbv) ⟨by omega, by omega, by simp⟩ (by cbv) ?_
    rintro ⟨j, n⟩ ⟨hj1, hj2, hj3⟩
    dsimp only at hj1 hj2 hj3
    refine wp_at (by cbv) ?_
    by_cases hj : j < as.length
    · obtain ⟨a, ha, hd, he⟩ := Tm.at_ (as := as) (n := j) (by omega)
      rw [hr] at he
      rw [hd] at hj3
      simp only [Tm.marks] at hj3
      have hc := ih a ha (d + bd) n (Tm.lows_mem hlow.2.2 ha) (by have := Tm.size_mem ha; omega) (by have := Tm.size_mem ha; omega)
      generalize Tm.enc a = row at hc he
      generalize Tm.mark a (d + bd) n = n2 at hc hj3
      repeat' (first | refine uU ?_ | refine zm (fun k' hk' => ?_) | refine zr (fun q' hq' => ?_) | refine uV fun z hz => ?_ | refine uW fun zs hzs => ?_ | refine dq (fun hq => ?_) fun hq => ?_)
      rw [← hz] at hc
      repeat' (first | refine uU ?_ | refine zm (fun k' hk' => ?_) | refine zr (fun q' hq' => ?_) | refine uV fun z hz => ?_ | refine uW fun zs hzs => ?_ | refine dq (fun hq => ?_) fun hq => ?_)
      exact again_normal (z, n2) ⟨by dsimp only; omega, by dsimp only; omega, by dsimp only; rw [hz]; exact hj3⟩ (by dsimp only; omega) (by cbv)
    · rw [drop_all hj1 (by omega)] at hj3
      simp only [Tm.marks] at hj3
      generalize Tm.marks as (d + bd) k2 = kr at hj3 ⊢
      subst hj3
      repeat' (first | refine uU ?_ | refine zm (fun k' hk' => ?_) | refine zr (fun q' hq' => ?_) | refine uV fun z hz => ?_ | refine uW fun zs hzs => ?_ | refine dq (fun hq => ?_) fun hq => ?_)
      (refine fin_normal ?_; cbv)
  · rw [if_neg (by omega)] at hi2
    subst hi2
    obtain ⟨k2, hk2⟩ : ∃ k2, k2 = ks := ⟨ks, rfl⟩
    subst hk2
    refine wploop (σ := Int × List Int) (fun x => [(25, .pl (.int .i64 x.1))]) (fun x => [(0, .set x.2)]) (fun x => 0 ≤ x.1 ∧ x.1 ≤ as.length ∧ Tm.marks (as.drop x.1.toNat) (d + bd) x.2 = Tm.marks as (d + bd) k2) (fun x => as.length - x.1.toNat) (0, k2) (by cbv) ⟨by omega, by omega, by simp⟩ (by cbv) ?_
    rintro ⟨j, n⟩ ⟨hj1, hj2, hj3⟩
    dsimp only at hj1 hj2 hj3
    refine wp_at (by cbv) ?_
    by_cases hj : j < as.length
    · obtain ⟨a, ha, hd, he⟩ := Tm.at_ (as := as) (n := j) (by omega)
      rw [hr] at he
      rw [hd] at hj3
      simp only [Tm.marks] at hj3
      have hc := ih a ha (d + bd) n (Tm.lows_mem hlow.2.2 ha) (by have := Tm.size_mem ha; omega) (by have := Tm.size_mem ha; omega)
      generalize Tm.enc a = row at hc he
      generalize Tm.mark a (d + bd) n = n2 at hc hj3
      repeat' (first | refine uU ?_ | refine zm (fun k' hk' => ?_) | refine zr (fun q' hq' => ?_) | refine uV fun z hz => ?_ | refine uW fun zs hzs => ?_ | refine dq (fun hq => ?_) fun hq => ?_)
      rw [← hz] at hc
      repeat' (first | refine uU ?_ | refine zm (fun k' hk' => ?_) | refine zr (fun q' hq' => ?_) | refine uV fun z hz => ?_ | refine uW fun zs hzs => ?_ | refine dq (fun hq => ?_) fun hq => ?_)
      exact again_normal (z, n2) ⟨by dsimp only; omega, by dsimp only; omega, by dsimp only; rw [hz]; exact hj3⟩ (by dsimp only; omega) (by cbv)
    · rw [drop_all hj1 (by omega)] at hj3
      simp only [Tm.marks] at hj3
      generalize Tm.marks as (d + bd) k2 = kr at hj3 ⊢
      subst hj3
      repeat' (first | refine uU ?_ | refine zm (fun k' hk' => ?_) | refine zr (fun q' hq' => ?_) | refine uV fun z hz => ?_ | refine uW fun zs hzs => ?_ | refine dq (fun hq => ?_) fun hq => ?_)
      (refine fin_normal ?_; cbv)
  · rw [if_neg (by omega)] at hi2
    subst hi2
    obtain ⟨k2, hk2⟩ : ∃ k2, k2 = ks := ⟨ks, rfl⟩
    subst hk2
    refine wploop (σ := Int × List Int) (fun x => [(25, .pl (.int .i64 x.1))]) (fun x => [(0, .set x.2)]) (fun x => 0 ≤ x.1 ∧ x.1 ≤ as.length ∧ Tm.marks (as.drop x.1.toNat) (d + bd) x.2 = Tm.marks as (d + bd) k2) (fun x => as.length - x.1.toNat) (0, k2) (by cbv) ⟨by omega, by omega, by simp⟩ (by cbv) ?_
    rintro ⟨j, n⟩ ⟨hj1, hj2, hj3⟩
    dsimp only at hj1 hj2 hj3
    refine wp_at (by cbv) ?_
    by_cases hj : j < as.length
    · obtain ⟨a, ha, hd, he⟩ := Tm.at_ (as := as) (n := j) (by omega)
      rw [hr] at he
      rw [hd] at hj3
      simp only [Tm.marks] at hj3
      have hc := ih a ha (d + bd) n (Tm.lows_mem hlow.2.2 ha) (by have := Tm.size_mem ha; omega) (by have := Tm.size_mem ha; omega)
      generalize Tm.enc a = row at hc he
      generalize Tm.mark a (d + bd) n = n2 at hc hj3
      repeat' (first | refine uU ?_ | refine zm (fun k' hk' => ?_) | refine zr (fun q' hq' => ?_) | refine uV fun z hz => ?_ | refine uW fun zs hzs => ?_ | refine dq (fun hq => ?_) fun hq => ?_)
      rw [← hz] at hc
      repeat' (first | refine uU ?_ | refine zm (fun k' hk' => ?_) | refine zr (fun q' hq' => ?_) | refine uV fun z hz => ?_ | refine uW fun zs hzs => ?_ | refine dq (fun hq => ?_) fun hq => ?_)
      exact again_normal (z, n2) ⟨by dsimp only; omega, by dsimp only; omega, by dsimp only; rw [hz]; exact hj3⟩ (by dsimp only; omega) (by cbv)
    · rw [drop_all hj1 (by omega)] at hj3
      simp only [Tm.marks] at hj3
      generalize Tm.marks as (d + bd) k2 = kr at hj3 ⊢
      subst hj3
      repeat' (first | refine uU ?_ | refine zm (fun k' hk' => ?_) | refine zr (fun q' hq' => ?_) | refine uV fun z hz => ?_ | refine uW fun zs hzs => ?_ | refine dq (fun hq => ?_) fun hq => ?_)
      (refine fin_normal ?_; cbv)
theorem call120 (hR : Has R G c120) : ∀ (f : Fm) (d : Int) (ks : List Int), f.low (2 ^ 40) → f.size < 2 ^ 31 → (0 ≤ d ∧ d + f.size < 2 ^ 39) → (Lim R G).call 120 [.st 5 f.enc, .pl (.int .i64 (d)), .mp 0] [.set ks] = some (.tup [], [.set (f.mark d ks)]) := by
  refine Fm.ind fun k t ts as ih d ks hlow hs hf => ?_
  have hcB := call94 (hR.sub (by kernel_rfl)) (Fm.mk k t ts as)
  rw [show (Fm.mk k t ts as).kind = k from rfl] at hcB
  have hb : 0 ≤ Fm.bnd k ∧ Fm.bnd k ≤ 1 := by unfold Fm.bnd; split <;> omega
  have hcT := call126 (hR.sub (by kernel_rfl))
  refine call_of (hR.at 120 (by kernel_rfl) tab120) (by rfl) ?_
  simp only [Fm.size, Fm.low] at hs hf hlow
  simp only [Fm.enc, Fm.mark] at hcB ⊢
  generalize Fm.bnd k = bd at hcB hb ⊢
  have hl := Fm.encs_len as
  have hl2 := Fm.sizes_len as
  generalize hr : Fm.encs as = rs at hl hcB ⊢
  have hl' := Tm.encs_len ts
  have hl2' := Tm.sizes_len ts
  generalize hr' : Tm.encs ts = rs' at hl' hcB ⊢
  generalize Ty.encs t.args = rt at hcB ⊢
  generalize t.kind = tk at hcB ⊢
  repeat' (first | refine uU ?_ | refine zm (fun k' hk' => ?_) | refine zr (fun q' hq' => ?_) | refine uV fun z hz => ?_ | refine uW fun zs hzs => ?_ | refine dq (fun hq => ?_) fun hq => ?_)
  refine wploop (σ := Int × List Int) (fun x => [(13, .pl (.int .i64 x.1))]) (fun x => [(0, .set x.2)]) (fun x => 0 ≤ x.1 ∧ x.1 ≤ ts.length ∧ Tm.marks (ts.drop x.1.toNat) d x.2 = Tm.marks ts d ks) (fun x => ts.length - x.1.toNat) (0, ks) (by cbv) ⟨by omega, by omega, by simp⟩ (by cbv) ?_
  rintro ⟨j, n⟩ ⟨hj1, hj2, hj3⟩
  dsimp only at hj1 hj2 hj3
  refine wp_at (by cbv) ?_
  by_cases hj : j < ts.length
  · obtain ⟨a, ha, hd, he⟩ := Tm.at_ (as := ts) (n := j) (by omega)
    rw [hr'] at he
    rw [hd] at hj3
    simp only [Tm.marks] at hj3
    have hc := hcT a d n (Tm.lows_mem hlow.1 ha) (by have := Tm.size_mem ha; omega) (by have := Tm.size_mem ha; omega)
    generalize Tm.enc a = row at hc he
    generalize Tm.mark a d n = n2 at hc hj3
    repeat' (first | refine uU ?_ | refine zm (fun k' hk' => ?_) | refine zr (fun q' hq' => ?_) | refine uV fun z hz => ?_ | refine uW fun zs hzs => ?_ | refine dq (fun hq => ?_) fun hq => ?_)
    exact again_normal (z, n2) ⟨by dsimp only; omega, by dsimp only; omega, by dsimp only; rw [hz]; exact hj3⟩ (by dsimp only; omega) (by cbv)
  · rw [drop_all hj1 (by omega)] at hj3
    simp only [Tm.marks] at hj3
    generalize Tm.marks ts d ks = k1 at hj3 ⊢
    subst hj3
    obtain ⟨k2, hk2⟩ : ∃ k2, k2 = n := ⟨n, rfl⟩
    subst hk2
    repeat' (first | refine uU ?_ | refine zm (fun k' hk' => ?_) | refine zr (fun q' hq' => ?_) | refine uV fun z hz => ?_ | refine uW fun zs hzs => ?_ | refine dq (fun hq => ?_) fun hq => ?_)
    refine wploop (σ := Int × List Int) (fun x => [(25, .pl (.int .i64 x.1))]) (fun x => [(0, .set x.2)]) (fun x => 0 ≤ x.1 ∧ x.1 ≤ as.length ∧ Fm.marks (as.drop x.1.toNat) (d + bd) x.2 = Fm.marks as (d + bd) k2) (fun x => as.length - x.1.toNat) (0, k2) (by cbv) ⟨by omega, by omega, by simp⟩ (by cbv) ?_
    rintro ⟨j, n⟩ ⟨hj1, hj2, hj3⟩
    dsimp only at hj1 hj2 hj3
    refine wp_at (by cbv) ?_
    by_cases hj : j < as.length
    · obtain ⟨a, ha, hd, he⟩ := Fm.at_ (as := as) (n := j) (by omega)
      rw [hr] at he
      rw [hd] at hj3
      simp only [Fm.marks] at hj3
      have hc := ih a ha (d + bd) n (Fm.lows_mem hlow.2 ha) (by have := Fm.size_mem ha; omega) (by have := Fm.size_mem ha; omega)
      generalize Fm.enc a = row at hc he
      generalize Fm.mark a (d + bd) n = n2 at hc hj3
      repeat' (first | refine uU ?_ | refine zm (fun k' hk' => ?_) | refine zr (fun q' hq' => ?_) | refine uV fun z hz => ?_ | refine uW fun zs hzs => ?_ | refine dq (fun hq => ?_) fun hq => ?_)
      rw [← hz] at hc
      repeat' (first | refine uU ?_ | refine zm (fun k' hk' => ?_) | refine zr (fun q' hq' => ?_) | refine uV fun z hz => ?_ | refine uW fun zs hzs => ?_ | refine dq (fun hq => ?_) fun hq => ?_)
      exact again_normal (z, n2) ⟨by dsimp only; omega, by dsimp only; omega, by dsimp only; rw [hz]; exact hj3⟩ (by dsimp only; omega) (by cbv)
    · rw [drop_all hj1 (by omega)] at hj3
      simp only [Fm.marks] at hj3
      generalize Fm.marks as (d + bd) k2 = kr at hj3 ⊢
      subst hj3
      repeat' (first | refine uU ?_ | refine zm (fun k' hk' => ?_) | refine zr (fun q' hq' => ?_) | refine uV fun z hz => ?_ | refine uW fun zs hzs => ?_ | refine dq (fun hq => ?_) fun hq => ?_)
      (refine fin_normal ?_; cbv)
theorem call121 (hR : Has R G c121) (ks : List Int) (h : ks.length < 2 ^ 32) : (Lim R G).call 121 [.mp 0] [.set ks] = some (.pl (.sl 1 (rowsK (sortK ks))), [.set ks]) := by
  refine call_of (hR.at 121 (by kernel_rfl) tab121) (by rfl) ?_
  generalize hr : rowsK (sortK ks) = rs
  repeat' (first | refine uU ?_ | refine zm (fun k' hk' => ?_) | refine zr (fun q' hq' => ?_) | refine uV fun z hz => ?_ | refine uW fun zs hzs => ?_ | refine dq (fun hq => ?_) fun hq => ?_)
  rw [hr] at hq'
  subst hq'
  (refine fin_normal ?_; cbv)
theorem call115 (hR : Has R G c115) (f : Fm) (hlow : f.err = 0 → f.low (2 ^ 40)) (hs : f.size < 2 ^ 31) : (Lim R G).call 115 [.st 5 f.enc] [] = some (.tup [.pl (.sl 1 (if f.err = 0 then rowsK (sortK (f.mark 0 [])) else [])), .pl (.int .i64 (f.err))], []) := by
  have h1 := call60 (hR.sub (by kernel_rfl)) f hs
  have h2 : f.err = 0 → _ := fun h => call120 (hR.sub (by kernel_rfl)) f 0 [] (hlow h) hs (by omega)
  have h3 := call121 (hR.sub (by kernel_rfl)) (f.mark 0 []) (by have := Fm.mark_len f 0 []; simp only [List.length_nil] at this; omega)
  refine call_of (hR.at 115 (by kernel_rfl) tab115) (by rfl) ?_
  by_cases e : f.err = 0
  · have h4 := h2 e
    clear h2
    rw [e] at h1
    rw [e, if_pos rfl]
    generalize rowsK (sortK (f.mark 0 [])) = rs at *
    generalize f.mark 0 [] = ks at *
    generalize f.enc = rf at *
    repeat' (first | refine uU ?_ | refine zm (fun k' hk' => ?_) | refine zr (fun q' hq' => ?_) | refine uV fun z hz => ?_ | refine uW fun zs hzs => ?_ | refine dq (fun hq => ?_) fun hq => ?_)
    (refine fin_ret ?_; cbv)
  · rw [if_neg e]
    clear h2 h3
    generalize f.enc = rf at *
    generalize f.err = er at *
    repeat' (first | refine uU ?_ | refine zm (fun k' hk' => ?_) | refine zr (fun q' hq' => ?_) | refine uV fun z hz => ?_ | refine uW fun zs hzs => ?_ | refine dq (fun hq => ?_) fun hq => ?_)
    (refine fin_ret ?_; cbv)
end
end Eng

