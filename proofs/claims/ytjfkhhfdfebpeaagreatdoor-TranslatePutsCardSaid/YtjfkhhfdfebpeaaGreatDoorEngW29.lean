/- Terms in place of variables, in terms and formulas. -/
import Derived.Test.YtjfkhhfdfebpeaaGreatDoorEngT
import Derived.Test.YtjfkhhfdfebpeaaGreatDoorEngTab
import Derived.Test.YtjfkhhfdfebpeaaGreatDoorEngW14
import Derived.Test.YtjfkhhfdfebpeaaGreatDoorEngW15
import Derived.Test.YtjfkhhfdfebpeaaGreatDoorEngW16
import Derived.Test.YtjfkhhfdfebpeaaGreatDoorEngW3
import Derived.Test.YtjfkhhfdfebpeaaGreatDoorEngW4
import Derived.Test.YtjfkhhfdfebpeaaGreatDoorEngW5
import Derived.Test.YtjfkhhfdfebpeaaGreatDoorEngZ
set_option linter.all false
set_option linter.unusedVariables false
set_option linter.unusedSimpArgs false
set_option maxRecDepth 100000
set_option maxHeartbeats 4000000
namespace Eng
open Go
section
variable {R : RProg} {G : Nat → AV}
theorem call117 (hR : Has R G c117) (t : Tm) (hs : t.size < 2 ^ 40) : (Lim R G).call 117 [.st 5 t.enc] [] = some (.pl (.int .i64 (t.err)), []) := by
  have h1 := call90 (hR.sub (by kernel_rfl)) t hs
  have h2 := call82 (hR.sub (by kernel_rfl)) t hs
  have hn := Tm.num_le t
  refine call_of (hR.at 117 (by kernel_rfl) tab117) (by rfl) ?_
  unfold Tm.err
  generalize hni : (t.num : Int) = ni at *
  generalize t.num = n at *
  generalize t.enc = row at *
  generalize t.ok = ok at *
  cases ok with
  | false =>
    repeat' (first | refine uU ?_ | refine uV fun z hz => ?_ | refine uW fun zs hzs => ?_ | refine dq (fun hq => ?_) fun hq => ?_)
    (refine fin_ret ?_; rw [if_neg (by simp)]; cbv)
  | true =>
    repeat' (first | refine uU ?_ | refine uV fun z hz => ?_ | refine uW fun zs hzs => ?_ | refine dq (fun hq => ?_) fun hq => ?_)
    · (refine fin_ret ?_; rw [if_pos rfl, if_pos (by omega)]; cbv)
    · (refine fin_ret ?_; rw [if_pos rfl, if_neg (by omega)]; cbv)
theorem call124 (hR : Has R G c124) : ∀ (t : Tm) (p : Int), t.size < 2 ^ 31 → (-2 ^ 40 < p ∧ p + t.size < 2 ^ 40) → (Lim R G).call 124 [.st 5 t.enc, .pl (.int .i64 (p))] [] = some (.pl (.int .i64 (t.times p)), []) := by
  refine Tm.ind fun k i t as ih p hs hf => ?_
  have hcB := call104 (hR.sub (by kernel_rfl)) (Tm.mk k i t as)
  rw [show (Tm.mk k i t as).kind = k from rfl] at hcB
  have hb : 0 ≤ Tm.bnd k ∧ Tm.bnd k ≤ 1 := by unfold Tm.bnd; split <;> omega
  refine call_of (hR.at 124 (by kernel_rfl) tab124) (by rfl) ?_
  simp only [Tm.size] at hs hf
  simp only [Tm.enc, Tm.times] at hcB ⊢
  generalize hi2 : (if k = 1 ∧ i = p then 1 else 0) = i2
  generalize Tm.bnd k = bd at hcB hb ⊢
  have hl := Tm.encs_len as
  have hl2 := Tm.sizes_len as
  have hl3 := Tm.nums_le as
  have hl4 := Tm.timess_le as (p + bd)
  generalize hr : Tm.encs as = rs at hl hcB ⊢
  generalize Ty.encs t.args = rt at hcB ⊢
  generalize t.kind = tk at hcB ⊢
  repeat' (first | refine uU ?_ | refine uV fun z hz => ?_ | refine uW fun zs hzs => ?_ | refine dq (fun hq => ?_) fun hq => ?_)
  all_goals first
    | (rename_i z1 hz1
       obtain rfl : z1 = 1 := by omega
       rw [if_pos (by omega)] at hi2; subst hi2
       refine wploop (σ := Int × Int) (fun x => [(22, .pl (.int .i64 x.1)), (5, .pl (.int .i64 x.2))]) (fun _ => []) (fun x => 0 ≤ x.1 ∧ x.1 ≤ as.length ∧ 0 ≤ x.2 ∧ x.2 + Tm.timess (as.drop x.1.toNat)  (p + bd) = Tm.timess as  (p + bd) + 1) (fun x => as.length - x.1.toNat) (0, 1) (by cbv) ⟨by omega, by omega, by omega, by simp <;> omega⟩ (by cbv) ?_
       rintro ⟨j, n⟩ ⟨hj1, hj2, hj3, hj4⟩
       dsimp only at hj1 hj2 hj3 hj4
       refine wp_at (by cbv) ?_
       by_cases hj : j < as.length
       · obtain ⟨a, ha, hd, he⟩ := Tm.at_ (as := as) (n := j) (by omega)
         rw [hr] at he
         rw [hd] at hj4
         simp only [Tm.timess] at hj4
         have hc := ih a ha (p + bd) (by have := Tm.size_mem ha; omega) (by have := Tm.size_mem ha; omega)
         generalize Tm.enc a = row at hc he
         generalize hcs : ((Tm.times a (p + bd) : Nat) : Int) = c at hc
         repeat' (first | refine uU ?_ | refine uV fun z hz => ?_ | refine uW fun zs hzs => ?_ | refine dq (fun hq => ?_) fun hq => ?_)
         rw [← hz] at hc
         repeat' (first | refine uU ?_ | refine uV fun z hz => ?_ | refine uW fun zs hzs => ?_ | refine dq (fun hq => ?_) fun hq => ?_)
         rename_i z1 hz1
         exact again_normal (z, z1) ⟨by dsimp only; omega, by dsimp only; omega, by dsimp only; omega, by dsimp only; rw [hz]; omega⟩ (by dsimp only; omega) (by cbv)
       · rw [drop_all hj1 (by omega)] at hj4
         simp only [Tm.timess] at hj4
         repeat' (first | refine uU ?_ | refine uV fun z hz => ?_ | refine uW fun zs hzs => ?_ | refine dq (fun hq => ?_) fun hq => ?_)
         (refine fin_ret ?_; rw [show ((1 + Tm.timess as (p + bd) : Nat) : Int) = n by omega]; cbv)
       )
    | (rw [if_neg (by omega)] at hi2; subst hi2
       refine wploop (σ := Int × Int) (fun x => [(22, .pl (.int .i64 x.1)), (5, .pl (.int .i64 x.2))]) (fun _ => []) (fun x => 0 ≤ x.1 ∧ x.1 ≤ as.length ∧ 0 ≤ x.2 ∧ x.2 + Tm.timess (as.drop x.1.toNat)  (p + bd) = Tm.timess as  (p + bd) + 0) (fun x => as.length - x.1.toNat) (0, 0) (by cbv) ⟨by omega, by omega, by omega, by simp <;> omega⟩ (by cbv) ?_
       rintro ⟨j, n⟩ ⟨hj1, hj2, hj3, hj4⟩
       dsimp only at hj1 hj2 hj3 hj4
       refine wp_at (by cbv) ?_
       by_cases hj : j < as.length
       · obtain ⟨a, ha, hd, he⟩ := Tm.at_ (as := as) (n := j) (by omega)
         rw [hr] at he
         rw [hd] at hj4
         simp only [Tm.timess] at hj4
         have hc := ih a ha (p + bd) (by have := Tm.size_mem ha; omega) (by have := Tm.size_mem ha; omega)
         generalize Tm.enc a = row at hc he
         generalize hcs : ((Tm.times a (p + bd) : Nat) : Int) = c at hc
         repeat' (first | refine uU ?_ | refine uV fun z hz => ?_ | refine uW fun zs hzs => ?_ | refine dq (fun hq => ?_) fun hq => ?_)
         rw [← hz] at hc
         repeat' (first | refine uU ?_ | refine uV fun z hz => ?_ | refine uW fun zs hzs => ?_ | refine dq (fun hq => ?_) fun hq => ?_)
         rename_i z1 hz1
         exact again_normal (z, z1) ⟨by dsimp only; omega, by dsimp only; omega, by dsimp only; omega, by dsimp only; rw [hz]; omega⟩ (by dsimp only; omega) (by cbv)
       · rw [drop_all hj1 (by omega)] at hj4
         simp only [Tm.timess] at hj4
         repeat' (first | refine uU ?_ | refine uV fun z hz => ?_ | refine uW fun zs hzs => ?_ | refine dq (fun hq => ?_) fun hq => ?_)
         (refine fin_ret ?_; rw [show ((0 + Tm.timess as (p + bd) : Nat) : Int) = n by omega]; cbv)
       )
theorem call118 (hR : Has R G c118) : ∀ (f : Fm) (p : Int), f.size < 2 ^ 31 → (-2 ^ 39 < p ∧ p + f.size < 2 ^ 39) → (Lim R G).call 118 [.st 5 f.enc, .pl (.int .i64 (p))] [] = some (.pl (.int .i64 (f.times p)), []) := by
  refine Fm.ind fun k t ts as ih p hs hf => ?_
  have hcB := call94 (hR.sub (by kernel_rfl)) (Fm.mk k t ts as)
  rw [show (Fm.mk k t ts as).kind = k from rfl] at hcB
  have hb : 0 ≤ Fm.bnd k ∧ Fm.bnd k ≤ 1 := by unfold Fm.bnd; split <;> omega
  simp only [Fm.size] at hs hf
  refine call_of (hR.at 118 (by kernel_rfl) tab118) (by rfl) ?_
  simp only [Fm.enc, Fm.times] at hcB ⊢
  generalize Fm.bnd k = bd at hcB hb ⊢
  have hl := Fm.encs_len as
  have hl2 := Fm.sizes_len as
  have hl3 := Fm.nums_le as
  have hl4 := Fm.timess_le as (p + bd)
  generalize hr : Fm.encs as = rs at hl hcB ⊢
  have hl' := Tm.encs_len ts
  have hl2' := Tm.sizes_len ts
  have hl3' := Tm.nums_le ts
  have hl4' := Tm.timess_le ts p
  generalize hr' : Tm.encs ts = rs' at hl' hcB ⊢
  generalize Ty.encs t.args = rt at *
  generalize t.kind = tk at *
  repeat' (first | refine uU ?_ | refine uV fun z hz => ?_ | refine uW fun zs hzs => ?_ | refine dq (fun hq => ?_) fun hq => ?_)
  refine wploop (σ := Int × Int) (fun x => [(13, .pl (.int .i64 x.1)), (5, .pl (.int .i64 x.2))]) (fun _ => []) (fun x => 0 ≤ x.1 ∧ x.1 ≤ ts.length ∧ 0 ≤ x.2 ∧ x.2 + Tm.timess (ts.drop x.1.toNat)  p = Tm.timess ts  p + 0) (fun x => ts.length - x.1.toNat) (0, 0) (by cbv) ⟨by omega, by omega, by omega, by simp <;> omega⟩ (by cbv) ?_
  rintro ⟨j, n⟩ ⟨hj1, hj2, hj3, hj4⟩
  dsimp only at hj1 hj2 hj3 hj4
  refine wp_at (by cbv) ?_
  by_cases hj : j < ts.length
  · obtain ⟨a, ha, hd, he⟩ := Tm.at_ (as := ts) (n := j) (by omega)
    rw [hr'] at he
    rw [hd] at hj4
    simp only [Tm.timess] at hj4
    have hc := call124 (hR.sub (by kernel_rfl)) a p (by have := Tm.size_mem ha; omega) (by have := Tm.size_mem ha; omega)
    generalize Tm.enc a = row at hc he
    generalize hcs : ((Tm.times a p : Nat) : Int) = c at hc
    repeat' (first | refine uU ?_ | refine uV fun z hz => ?_ | refine uW fun zs hzs => ?_ | refine dq (fun hq => ?_) fun hq => ?_)
    rename_i z1 hz1
    exact again_normal (z, z1) ⟨by dsimp only; omega, by dsimp only; omega, by dsimp only; omega, by dsimp only; rw [hz]; omega⟩ (by dsimp only; omega) (by cbv)
  · rw [drop_all hj1 (by omega)] at hj4
    simp only [Tm.timess] at hj4
    repeat' (first | refine uU ?_ | refine uV fun z hz => ?_ | refine uW fun zs hzs => ?_ | refine dq (fun hq => ?_) fun hq => ?_)
    obtain ⟨m, hmn⟩ : ∃ m, m = n := ⟨n, rfl⟩
    subst hmn
    have hm : (m : Int) = Tm.timess ts p + 0 := by omega
    clear hj3 hj4
    refine wploop (σ := Int × Int) (fun x => [(26, .pl (.int .i64 x.1)), (5, .pl (.int .i64 x.2))]) (fun _ => []) (fun x => 0 ≤ x.1 ∧ x.1 ≤ as.length ∧ 0 ≤ x.2 ∧ x.2 + Fm.timess (as.drop x.1.toNat)  (p + bd) = Fm.timess as  (p + bd) + m) (fun x => as.length - x.1.toNat) (0, m) (by cbv) ⟨by omega, by omega, by omega, by simp <;> omega⟩ (by cbv) ?_
    rintro ⟨j, n⟩ ⟨hj1, hj2, hj3, hj4⟩
    dsimp only at hj1 hj2 hj3 hj4
    refine wp_at (by cbv) ?_
    by_cases hj : j < as.length
    · obtain ⟨a, ha, hd, he⟩ := Fm.at_ (as := as) (n := j) (by omega)
      rw [hr] at he
      rw [hd] at hj4
      simp only [Fm.timess] at hj4
      have hc := ih a ha (p + bd) (by have := Fm.size_mem ha; omega) (by have := Fm.size_mem ha; omega)
      generalize Fm.enc a = row at hc he
      generalize hcs : ((Fm.times a (p + bd) : Nat) : Int) = c at hc
      repeat' (first | refine uU ?_ | refine uV fun z hz => ?_ | refine uW fun zs hzs => ?_ | refine dq (fun hq => ?_) fun hq => ?_)
      rw [← hz] at hc
      repeat' (first | refine uU ?_ | refine uV fun z hz => ?_ | refine uW fun zs hzs => ?_ | refine dq (fun hq => ?_) fun hq => ?_)
      rename_i z1 hz1
      exact again_normal (z, z1) ⟨by dsimp only; omega, by dsimp only; omega, by dsimp only; omega, by dsimp only; rw [hz]; omega⟩ (by dsimp only; omega) (by cbv)
    · rw [drop_all hj1 (by omega)] at hj4
      simp only [Fm.timess] at hj4
      repeat' (first | refine uU ?_ | refine uV fun z hz => ?_ | refine uW fun zs hzs => ?_ | refine dq (fun hq => ?_) fun hq => ?_)
      (refine fin_ret ?_; rw [show ((Tm.timess ts p + Fm.timess as (p + bd) : Nat) : Int) = n by omega]; cbv)
theorem call125 (hR : Has R G c125) (s : Tm) (hslow : s.low (2 ^ 39)) (hss : s.size < 2 ^ 31) : ∀ (t : Tm) (p d : Int), t.low (2 ^ 39) → t.size < 2 ^ 31 → (0 ≤ p ∧ p < 2 ^ 38) → (0 ≤ d ∧ d + t.size < 2 ^ 38) → (Lim R G).call 125 [.st 5 t.enc, .pl (.int .i64 (p)), .pl (.int .i64 (d)), .st 5 s.enc] [] = some (.st 5 (t.inn p d s).enc, []) := by
  refine Tm.ind fun k i t as ih p d hlow hs hp hd => ?_
  have hcB := call104 (hR.sub (by kernel_rfl)) (Tm.mk k i t as)
  rw [show (Tm.mk k i t as).kind = k from rfl] at hcB
  have hb : 0 ≤ Tm.bnd k ∧ Tm.bnd k ≤ 1 := by unfold Tm.bnd; split <;> omega
  simp only [Tm.size, Tm.low] at hs hlow hd
  refine call_of (hR.at 125 (by kernel_rfl) tab125) (by rfl) ?_
  have hl := Tm.encs_len as
  have hl2 := Tm.sizes_len as
  by_cases hk : k = 1
  · have hcU := call93 (hR.sub (by kernel_rfl)) s 0 (p + d) (Tm.low_mono (by omega) s hslow) hss (by omega) (by omega)
    have hcV := call42 (hR.sub (by kernel_rfl)) (i - 1)
    clear ih hcB
    simp only [Tm.inn]
    rw [if_pos hk]
    by_cases h1 : i = p + d
    · rw [if_pos h1]
      clear hcV
      simp only [Tm.enc]
      generalize Tm.enc (Tm.up s 0 (p + d)) = rowU at *
      generalize s.enc = rowS at *
      generalize Ty.encs t.args = rt at *
      generalize t.kind = tk at *
      generalize Tm.encs as = rs at *
      repeat' (first | refine uU ?_ | refine uV fun z hz => ?_ | refine uW fun zs hzs => ?_ | refine dq (fun hq => ?_) fun hq => ?_)
      rw [show z = p + d by omega]
      repeat' (first | refine uU ?_ | refine uV fun z hz => ?_ | refine uW fun zs hzs => ?_ | refine dq (fun hq => ?_) fun hq => ?_)
      (refine fin_ret ?_; cbv)
    · rw [if_neg h1]
      clear hcU
      by_cases h2 : p + d < i
      · rw [if_pos h2]
        simp only [Tm.var, Tm.enc, Ty.kind_mk, Ty.args_mk, Ty.encs_nil, Tm.encs] at hcV ⊢
        generalize s.enc = rowS at *
        generalize Ty.encs t.args = rt at *
        generalize t.kind = tk at *
        generalize Tm.encs as = rs at *
        repeat' (first | refine uU ?_ | refine uV fun z hz => ?_ | refine uW fun zs hzs => ?_ | refine dq (fun hq => ?_) fun hq => ?_)
        rw [← hz] at hcV ⊢
        repeat' (first | refine uU ?_ | refine uV fun z hz => ?_ | refine uW fun zs hzs => ?_ | refine dq (fun hq => ?_) fun hq => ?_)
        (refine fin_ret ?_; cbv)
      · rw [if_neg h2]
        clear hcV
        simp only [Tm.enc]
        generalize s.enc = rowS at *
        generalize Ty.encs t.args = rt at *
        generalize t.kind = tk at *
        generalize Tm.encs as = rs at *
        repeat' (first | refine uU ?_ | refine uV fun z hz => ?_ | refine uW fun zs hzs => ?_ | refine dq (fun hq => ?_) fun hq => ?_)
        (refine fin_ret ?_; cbv)
  · simp only [Tm.inn]
    rw [if_neg hk]
    simp only [Tm.enc] at hcB ⊢
    generalize Tm.bnd k = bd at hcB hb ⊢
    generalize hr : Tm.encs as = rs at hl hcB ⊢
    generalize Ty.encs t.args = rt at hcB ⊢
    generalize t.kind = tk at hcB ⊢
    generalize hrs : s.enc = rowS at ih ⊢
    generalize ho : Tm.encs (Tm.inns as p (d + bd) s) = ro
    repeat' (first | refine uU ?_ | refine uV fun z hz => ?_ | refine uW fun zs hzs => ?_ | refine dq (fun hq => ?_) fun hq => ?_)
    refine wploop (σ := Int × List (List PV)) (fun x => [(47, .pl (.int .i64 x.1))]) (fun x => [(1081, .buf 5 x.2 0)]) (fun x => 0 ≤ x.1 ∧ x.1 ≤ as.length ∧ x.2.length = x.1 ∧ x.2 ++ (fun l => Tm.encs (Tm.inns l p (d + bd) s)) (as.drop x.1.toNat) = (fun l => Tm.encs (Tm.inns l p (d + bd) s)) as) (fun x => as.length - x.1.toNat) (0, []) (by cbv) ⟨by omega, by omega, rfl, by simp⟩ (by cbv) ?_
    rintro ⟨j, n⟩ ⟨hj1, hj2, hj3, hj4⟩
    dsimp only at hj1 hj2 hj3 hj4
    refine wp_at (by cbv) ?_
    by_cases hj : j < as.length
    · obtain ⟨a, ha, hd, he⟩ := Tm.at_ (as := as) (n := j) (by omega)
      rw [hr] at he
      rw [hd] at hj4
      simp only [Tm.inns, Tm.encs] at hj4
      have hc := ih a ha p (d + bd) (Tm.lows_mem hlow.2.2 ha) (by have := Tm.size_mem ha; omega) hp (by have := Tm.size_mem ha; omega)
      generalize Tm.enc a = row at hc he
      generalize Tm.enc (Tm.inn a p (d + bd) s) = row' at hc hj4
      repeat' (first | refine uU ?_ | refine uV fun z hz => ?_ | refine uW fun zs hzs => ?_ | refine dq (fun hq => ?_) fun hq => ?_)
      rw [← hz] at hc
      repeat' (first | refine uU ?_ | refine uV fun z hz => ?_ | refine uW fun zs hzs => ?_ | refine dq (fun hq => ?_) fun hq => ?_)
      exact again_normal (z, zs) ⟨by dsimp only; omega, by dsimp only; omega, by dsimp only; rw [hzs]; simp; omega, by dsimp only; rw [hzs, hz, List.append_assoc]; exact hj4⟩ (by dsimp only; omega) (by cbv)
    · rw [drop_all hj1 (by omega)] at hj4
      simp only [Tm.inns, Tm.encs, List.append_nil] at hj4
      repeat' (first | refine uU ?_ | refine uV fun z hz => ?_ | refine uW fun zs hzs => ?_ | refine dq (fun hq => ?_) fun hq => ?_)
      rw [ho] at hj4
      (refine fin_ret ?_; rw [← hj4]; cbv)
theorem call119 (hR : Has R G c119) (s : Tm) (hslow : s.low (2 ^ 39)) (hss : s.size < 2 ^ 31) : ∀ (f : Fm) (p d : Int), f.low (2 ^ 39) → f.size < 2 ^ 31 → (0 ≤ p ∧ p < 2 ^ 37) → (0 ≤ d ∧ d + f.size < 2 ^ 37) → (Lim R G).call 119 [.st 5 f.enc, .pl (.int .i64 (p)), .pl (.int .i64 (d)), .st 5 s.enc] [] = some (.st 5 (f.inn p d s).enc, []) := by
  refine Fm.ind fun k t ts as ih p d hlow hs hp hd => ?_
  have hcB := call94 (hR.sub (by kernel_rfl)) (Fm.mk k t ts as)
  rw [show (Fm.mk k t ts as).kind = k from rfl] at hcB
  have hb : 0 ≤ Fm.bnd k ∧ Fm.bnd k ≤ 1 := by unfold Fm.bnd; split <;> omega
  have hcT := call125 (hR.sub (by kernel_rfl)) s hslow hss
  refine call_of (hR.at 119 (by kernel_rfl) tab119) (by rfl) ?_
  simp only [Fm.size, Fm.low] at hs hlow hd
  simp only [Fm.enc, Fm.inn] at hcB ⊢
  have hl := Fm.encs_len as
  have hl2 := Fm.sizes_len as
  generalize hr : Fm.encs as = rs at hl hcB ⊢
  have hl' := Tm.encs_len ts
  have hl2' := Tm.sizes_len ts
  generalize hr' : Tm.encs ts = rs' at hl' hcB ⊢
  generalize Ty.encs t.args = rt at hcB ⊢
  generalize t.kind = tk at hcB ⊢
  generalize Fm.bnd k = bk at hcB hb ⊢
  generalize hrs : s.enc = rowS at ih hcT ⊢
  generalize hoas : Fm.encs (Fm.inns as p (d + bk) s) = ro
  generalize hots : Tm.encs (Tm.inns ts p d s) = ro'
  repeat' (first | refine uU ?_ | refine uV fun z hz => ?_ | refine uW fun zs hzs => ?_ | refine dq (fun hq => ?_) fun hq => ?_)
  refine wploop (σ := Int × List (List PV)) (fun x => [(22, .pl (.int .i64 x.1))]) (fun x => [(1049, .buf 5 x.2 0)]) (fun x => 0 ≤ x.1 ∧ x.1 ≤ ts.length ∧ x.2.length = x.1 ∧ x.2 ++ (fun l => Tm.encs (Tm.inns l p d s)) (ts.drop x.1.toNat) = (fun l => Tm.encs (Tm.inns l p d s)) ts) (fun x => ts.length - x.1.toNat) (0, []) (by cbv) ⟨by omega, by omega, rfl, by simp⟩ (by cbv) ?_
  rintro ⟨j, n⟩ ⟨hj1, hj2, hj3, hj4⟩
  dsimp only at hj1 hj2 hj3 hj4
  refine wp_at (by cbv) ?_
  by_cases hj : j < ts.length
  · obtain ⟨a, ha, hd, he⟩ := Tm.at_ (as := ts) (n := j) (by omega)
    rw [hr'] at he
    rw [hd] at hj4
    simp only [Tm.inns, Tm.encs] at hj4
    have hc := hcT a p d (Tm.lows_mem hlow.1 ha) (by have := Tm.size_mem ha; omega) (by omega) (by have := Tm.size_mem ha; omega)
    generalize Tm.enc a = row at hc he
    generalize Tm.enc (Tm.inn a p d s) = row' at hc hj4
    repeat' (first | refine uU ?_ | refine uV fun z hz => ?_ | refine uW fun zs hzs => ?_ | refine dq (fun hq => ?_) fun hq => ?_)
    exact again_normal (z, zs) ⟨by dsimp only; omega, by dsimp only; omega, by dsimp only; rw [hzs]; simp; omega, by dsimp only; rw [hzs, hz, List.append_assoc]; exact hj4⟩ (by dsimp only; omega) (by cbv)
  · rw [drop_all hj1 (by omega)] at hj4
    simp only [Tm.inns, Tm.encs, List.append_nil] at hj4
    repeat' (first | refine uU ?_ | refine uV fun z hz => ?_ | refine uW fun zs hzs => ?_ | refine dq (fun hq => ?_) fun hq => ?_)
    rw [hots] at hj4
    subst hj4
    refine wploop (σ := Int × List (List PV)) (fun x => [(40, .pl (.int .i64 x.1))]) (fun x => [(1050, .buf 5 x.2 0)]) (fun x => 0 ≤ x.1 ∧ x.1 ≤ as.length ∧ x.2.length = x.1 ∧ x.2 ++ (fun l => Fm.encs (Fm.inns l p (d + bk) s)) (as.drop x.1.toNat) = (fun l => Fm.encs (Fm.inns l p (d + bk) s)) as) (fun x => as.length - x.1.toNat) (0, []) (by cbv) ⟨by omega, by omega, rfl, by simp⟩ (by cbv) ?_
    rintro ⟨j, n⟩ ⟨hj1, hj2, hj3, hj4⟩
    dsimp only at hj1 hj2 hj3 hj4
    refine wp_at (by cbv) ?_
    by_cases hj : j < as.length
    · obtain ⟨a, ha, hd, he⟩ := Fm.at_ (as := as) (n := j) (by omega)
      rw [hr] at he
      rw [hd] at hj4
      simp only [Fm.inns, Fm.encs] at hj4
      have hc := ih a ha p (d + bk) (Fm.lows_mem hlow.2 ha) (by have := Fm.size_mem ha; omega) hp (by have := Fm.size_mem ha; omega)
      generalize Fm.enc a = row at hc he
      generalize Fm.enc (Fm.inn a p (d + bk) s) = row' at hc hj4
      repeat' (first | refine uU ?_ | refine uV fun z hz => ?_ | refine uW fun zs hzs => ?_ | refine dq (fun hq => ?_) fun hq => ?_)
      rw [← hz] at hc
      repeat' (first | refine uU ?_ | refine uV fun z hz => ?_ | refine uW fun zs hzs => ?_ | refine dq (fun hq => ?_) fun hq => ?_)
      exact again_normal (z, zs) ⟨by dsimp only; omega, by dsimp only; omega, by dsimp only; rw [hzs]; simp; omega, by dsimp only; rw [hzs, hz, List.append_assoc]; exact hj4⟩ (by dsimp only; omega) (by cbv)
    · rw [drop_all hj1 (by omega)] at hj4
      simp only [Fm.inns, Fm.encs, List.append_nil] at hj4
      repeat' (first | refine uU ?_ | refine uV fun z hz => ?_ | refine uW fun zs hzs => ?_ | refine dq (fun hq => ?_) fun hq => ?_)
      rw [hoas] at hj4
      (refine fin_ret ?_; rw [← hj4]; cbv)
theorem call114 (hR : Has R G c114) (f : Fm) (s : Tm) (hf : f.size < 2 ^ 31) (hs : s.size < 2 ^ 31) : (Lim R G).call 114 [.st 5 f.enc, .pl (.int .i64 (0)), .st 5 s.enc] [] = some (.tup [.st 5 (Fm.enc (if f.putE s = 0 then f.inn 0 0 s else Fm.zero)), .pl (.int .i64 (f.putE s))], []) := by
  have h1 := call60 (hR.sub (by kernel_rfl)) f (by omega)
  have h2 := call117 (hR.sub (by kernel_rfl)) s (by omega)
  have h3 := call62 (hR.sub (by kernel_rfl)) f 536870912 (by omega)
  have h4 := call81 (hR.sub (by kernel_rfl)) s 536870912 (by omega)
  have h5 := call63 (hR.sub (by kernel_rfl)) f (by omega)
  have h6 := call118 (hR.sub (by kernel_rfl)) f 0 (by omega) (by omega)
  have h7 := call82 (hR.sub (by kernel_rfl)) s (by omega)
  have hn1 := Fm.num_le f
  have hn2 := Tm.num_le s
  have hn3 := Fm.times_le f 0
  have hp1 : 1 ≤ s.num := by obtain ⟨k, i, t, as⟩ := s; simp only [Tm.num]; omega
  refine call_of (hR.at 114 (by kernel_rfl) tab114) (by rfl) ?_
  by_cases e1 : f.err = 0
  · have k1 := Fm.err_ok e1
    by_cases e2 : s.err = 0
    · have k2 := Tm.err_ok e2
      have hE0 : f.putE s = if f.least 536870912 = false then 1 else if s.least 536870912 = false then 1 else if 4096 < (f.num : Int) + f.times 0 * (s.num - 1) then 4 else 0 := by
        unfold Fm.putE
        rw [if_neg (show ¬ f.err ≠ 0 by simpa using e1), if_neg (show ¬ s.err ≠ 0 by simpa using e2)]
      rw [e1] at h1
      rw [e2] at h2
      cases e3 : f.least 536870912 with
      | false =>
        rw [e3] at h3 hE0
        rw [if_pos rfl] at hE0
        rw [hE0, if_neg (by decide)]
        clear h4 h5 h6 h7
        simp only [Fm.zero, Fm.enc, Ty.kind_mk, Ty.args_mk, Ty.encs_nil, Tm.encs, Fm.encs]
        generalize f.enc = rf at *
        generalize s.enc = rs at *
        repeat' (first | refine uU ?_ | refine uV fun z hz => ?_ | refine uW fun zs hzs => ?_ | refine dq (fun hq => ?_) fun hq => ?_)
        (refine fin_ret ?_; cbv)
      | true =>
        rw [e3] at h3 hE0
        rw [if_neg (by simp)] at hE0
        cases e4 : s.least 536870912 with
        | false =>
          rw [e4] at h4 hE0
          rw [if_pos rfl] at hE0
          rw [hE0, if_neg (by decide)]
          clear h5 h6 h7
          simp only [Fm.zero, Fm.enc, Ty.kind_mk, Ty.args_mk, Ty.encs_nil, Tm.encs, Fm.encs]
          generalize f.enc = rf at *
          generalize s.enc = rs at *
          repeat' (first | refine uU ?_ | refine uV fun z hz => ?_ | refine uW fun zs hzs => ?_ | refine dq (fun hq => ?_) fun hq => ?_)
          (refine fin_ret ?_; cbv)
        | true =>
          rw [e4] at h4 hE0
          rw [if_neg (by simp)] at hE0
          have l1 := Fm.low_mono (show (536870912 : Int) ≤ 2 ^ 39 by omega) f (Fm.low_of f (Fm.err_ok e1).1 e3)
          have l2 : s.low (2 ^ 39) := Tm.low_mono (show (536870912 : Int) ≤ 2 ^ 39 by omega) s (Tm.low_of s (by
            unfold Tm.err at e2
            cases h : s.ok with
            | true => rfl
            | false => rw [h] at e2; simp at e2) e4)
          have h8 := call119 (hR.sub (by kernel_rfl)) s l2 (by omega) f 0 0 l1 (by omega) (by omega) (by omega)
          by_cases e5 : 4096 < (f.num : Int) + f.times 0 * (s.num - 1)
          · rw [if_pos e5] at hE0
            rw [hE0, if_neg (by decide)]
            clear h8
            simp only [Fm.zero, Fm.enc, Ty.kind_mk, Ty.args_mk, Ty.encs_nil, Tm.encs, Fm.encs]
            generalize hx : (f.times 0 : Int) = x at *
            generalize hy : (s.num : Int) = y at *
            generalize hw : (f.num : Int) = w at *
            generalize f.enc = rf at *
            generalize s.enc = rs at *
            repeat' (first | refine uU ?_ | refine uV fun z hz => ?_ | refine uW fun zs hzs => ?_ | refine dq (fun hq => ?_) fun hq => ?_)
            have hz1 : z = y - 1 := by omega
            rw [← hz1] at e5
            have hm : 0 ≤ x * z ∧ x * z ≤ 2 ^ 32 := by
              rw [hz1]
              exact ⟨Int.mul_nonneg (by omega) (by omega), Int.le_trans (Int.mul_le_mul_of_nonneg_left (show y - 1 ≤ 2 ^ 14 by omega) (by omega)) (by omega)⟩
            repeat' (first | refine uU ?_ | refine uV fun z hz => ?_ | refine uW fun zs hzs => ?_ | refine dq (fun hq => ?_) fun hq => ?_)
            all_goals first
              | (refine fin_ret ?_; cbv)
              | (exfalso; omega)
          · rw [if_neg e5] at hE0
            rw [hE0, if_pos rfl]
            have h9 := call28 (hR.sub (by kernel_rfl)) (f.inn 0 0 s) (by
              have o := Fm.size_num _ (Fm.inn_ok k2.1 f 0 0 k1.1 (by omega) (by omega))
              have n := Fm.inn_num (s := s) f 0 0 k1.1
              rw [show (0 : Int) + 0 = 0 from rfl] at n
              omega)
            generalize hx : (f.times 0 : Int) = x at *
            generalize hy : (s.num : Int) = y at *
            generalize hw : (f.num : Int) = w at *
            generalize (f.inn 0 0 s).enc = ro at *
            generalize f.enc = rf at *
            generalize s.enc = rs at *
            repeat' (first | refine uU ?_ | refine uV fun z hz => ?_ | refine uW fun zs hzs => ?_ | refine dq (fun hq => ?_) fun hq => ?_)
            have hz1 : z = y - 1 := by omega
            rw [← hz1] at e5
            have hm : 0 ≤ x * z ∧ x * z ≤ 2 ^ 32 := by
              rw [hz1]
              exact ⟨Int.mul_nonneg (by omega) (by omega), Int.le_trans (Int.mul_le_mul_of_nonneg_left (show y - 1 ≤ 2 ^ 14 by omega) (by omega)) (by omega)⟩
            repeat' (first | refine uU ?_ | refine uV fun z hz => ?_ | refine uW fun zs hzs => ?_ | refine dq (fun hq => ?_) fun hq => ?_)
            all_goals first
              | (refine fin_ret ?_; cbv)
              | (exfalso; omega)
    · have hE0 : f.putE s = s.err := by
        unfold Fm.putE
        rw [if_neg (show ¬ f.err ≠ 0 by simpa using e1), if_pos e2]
      rw [hE0, if_neg e2]
      rw [e1] at h1
      clear h3 h4 h5 h6 h7
      simp only [Fm.zero, Fm.enc, Ty.kind_mk, Ty.args_mk, Ty.encs_nil, Tm.encs, Fm.encs]
      generalize f.enc = rf at *
      generalize s.enc = rs at *
      generalize s.err = er at *
      repeat' (first | refine uU ?_ | refine uV fun z hz => ?_ | refine uW fun zs hzs => ?_ | refine dq (fun hq => ?_) fun hq => ?_)
      (refine fin_ret ?_; cbv)
  · have hE0 : f.putE s = f.err := by
      unfold Fm.putE
      rw [if_pos e1]
    rw [hE0, if_neg e1]
    clear h2 h3 h4 h5 h6 h7
    simp only [Fm.zero, Fm.enc, Ty.kind_mk, Ty.args_mk, Ty.encs_nil, Tm.encs, Fm.encs]
    generalize f.enc = rf at *
    generalize s.enc = rs at *
    generalize f.err = er at *
    repeat' (first | refine uU ?_ | refine uV fun z hz => ?_ | refine uW fun zs hzs => ?_ | refine dq (fun hq => ?_) fun hq => ?_)
    (refine fin_ret ?_; cbv)
end
end Eng

