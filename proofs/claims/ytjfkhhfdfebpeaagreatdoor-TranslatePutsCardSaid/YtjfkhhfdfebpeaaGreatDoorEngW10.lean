/- The program's translation of formulas. -/
import Derived.Test.YtjfkhhfdfebpeaaGreatDoorEngT
import Derived.Test.YtjfkhhfdfebpeaaGreatDoorEngTab
import Derived.Test.YtjfkhhfdfebpeaaGreatDoorEngW8
import Derived.Test.YtjfkhhfdfebpeaaGreatDoorEngW9
import Derived.Test.YtjfkhhfdfebpeaaGreatDoorEngZ
set_option linter.all false
set_option linter.unusedVariables false
set_option linter.unusedSimpArgs false
set_option maxRecDepth 100000
set_option maxHeartbeats 4000000
namespace Eng
open Go
section
variable {R : RProg} {G : Nat → AV}
theorem call50 (hR : Has R G c50) (f : Fm) (fr d : Int) (hs : f.size < 2 ^ 31) (hf : 0 ≤ fr ∧ fr ≤ 4096) (hd : 0 ≤ d ∧ d ≤ 4096) :
    (Lim R G).call 50 [.st 5 f.enc, .pl (.int .i64 (fr)), .pl (.int .i64 (d))] [] = some (.tup [.st 5 (Fm.enc (if f.err = 0 ∧ f.least 536870912 = true then f.up fr d else Fm.zero)), .pl (.int .i64 (if f.err = 0 then if f.least 536870912 = true then 0 else 1 else f.err))], []) := by
  have h1 := call48 (hR.sub (by kernel_rfl)) f hs
  have h2 := call73 (hR.sub (by kernel_rfl)) fr
  have h3 := call73 (hR.sub (by kernel_rfl)) d
  have h4 := call74 (hR.sub (by kernel_rfl)) f hs
  rw [decide_eq_true hf] at h2
  rw [decide_eq_true hd] at h3
  have h5 : f.ok = true → f.least 536870912 = true → (Lim R G).call 75 [.st 5 f.enc, .pl (.int .i64 (fr)), .pl (.int .i64 (d))] [] = some (.st 5 (f.up fr d).enc, []) := fun ho hl => by
    rw [← Fm.lift_up ho]
    exact call75 (hR.sub (by kernel_rfl)) f fr d (Fm.low_mono (by omega) f (Fm.low_of f ho hl)) hs (by omega) (by omega)
  refine call_of (hR.at 50 (by kernel_rfl) tab50) (by rfl) ?_
  by_cases he : f.err = 0
  · obtain ⟨ho, hn⟩ := Fm.err_ok he
    rw [Fm.tf_least (by omega) f 0 true ho, Bool.true_and] at h4
    rw [if_pos he]
    rw [he] at h1
    have h6 := h5 ho
    clear h5
    cases hl : f.least 536870912 with
    | false =>
      rw [hl] at h4
      rw [if_neg (by simp), if_neg (by simp)]
      simp only [Fm.zero, Fm.enc, Ty.kind, Ty.args, Ty.encs, Tm.encs, Fm.encs]
      generalize f.enc = row at *
      repeat' (first | refine uU ?_ | refine uV fun z hz => ?_ | refine uW fun zs hzs => ?_ | refine dq (fun hq => ?_) fun hq => ?_)
      (refine fin_ret ?_; cbv)
    | true =>
      have h7 := h6 hl
      clear h6
      rw [hl] at h4
      rw [if_pos ⟨he, rfl⟩, if_pos rfl]
      generalize f.enc = row at *
      generalize Fm.enc (f.up fr d) = ro at *
      repeat' (first | refine uU ?_ | refine uV fun z hz => ?_ | refine uW fun zs hzs => ?_ | refine dq (fun hq => ?_) fun hq => ?_)
      (refine fin_ret ?_; cbv)
  · rw [if_neg he, if_neg (fun h => he h.1)]
    simp only [Fm.zero, Fm.enc, Ty.kind, Ty.args, Ty.encs, Tm.encs, Fm.encs]
    generalize f.enc = row at *
    generalize f.err = er at *
    repeat' (first | refine uU ?_ | refine uV fun z hz => ?_ | refine uW fun zs hzs => ?_ | refine dq (fun hq => ?_) fun hq => ?_)
    (refine fin_ret ?_; cbv)
theorem call49 (hR : Has R G c49) : ∀ (f : Fm), f.size < 2 ^ 31 → (Lim R G).call 49 [.st 5 f.enc] [] = some (.pl (.bool (!f.nu)), []) := by
  refine Fm.ind fun k t ts as ih hs => ?_
  simp only [Fm.size] at hs
  refine call_of (hR.at 49 (by kernel_rfl) tab49) (by rfl) ?_
  simp only [Fm.enc, Fm.nu]
  have hl := Fm.encs_len as
  have hl2 := Fm.sizes_len as
  generalize hr : Fm.encs as = rs at hl ⊢
  generalize Ty.encs t.args = rt at *
  generalize t.kind = tk at *
  generalize Tm.encs ts = rs' at *
  by_cases hk : k ≠ 6 ∧ k ≠ 7
  · rw [decide_eq_true hk, Bool.true_and]
    repeat' (first | refine uU ?_ | refine uV fun z hz => ?_ | refine uW fun zs hzs => ?_ | refine dq (fun hq => ?_) fun hq => ?_)
    refine wploop (σ := Int) (fun x => [(16, .pl (.int .i64 x))]) (fun _ => []) (fun x => 0 ≤ x ∧ x ≤ as.length ∧ Fm.nus as = Fm.nus (as.drop x.toNat)) (fun x => as.length - x.toNat) 0 (by cbv) ⟨by omega, by omega, by simp⟩ (by cbv) ?_
    rintro j ⟨hj1, hj2, hj3⟩
    refine wp_at (by cbv) ?_
    by_cases hj : j < as.length
    · obtain ⟨a, ha, hd, he⟩ := Fm.at_ (as := as) (n := j) (by omega)
      rw [hr] at he
      rw [hd] at hj3
      simp only [Fm.nus] at hj3
      have hc := ih a ha (by have := Fm.size_mem ha; omega)
      generalize Fm.enc a = row at hc he
      cases hb : Fm.nu a with
      | false =>
        rw [hb] at hc hj3
        simp only [Bool.false_and] at hj3
        repeat' (first | refine uU ?_ | refine uV fun z hz => ?_ | refine uW fun zs hzs => ?_ | refine dq (fun hq => ?_) fun hq => ?_)
        all_goals (refine fin_ret ?_; rw [hj3, Bool.not_false]; cbv)
      | true =>
        rw [hb] at hc hj3
        simp only [Bool.true_and] at hj3
        repeat' (first | refine uU ?_ | refine uV fun z hz => ?_ | refine uW fun zs hzs => ?_ | refine dq (fun hq => ?_) fun hq => ?_)
        all_goals exact again_normal z ⟨by omega, by omega, by rw [hj3, hz]⟩ (by omega) (by cbv)
    · rw [drop_all hj1 (by omega)] at hj3
      simp only [Fm.nus] at hj3
      repeat' (first | refine uU ?_ | refine uV fun z hz => ?_ | refine uW fun zs hzs => ?_ | refine dq (fun hq => ?_) fun hq => ?_)
      (refine fin_ret ?_; rw [hj3, Bool.not_true]; cbv)
  · rw [decide_eq_false hk, Bool.false_and, Bool.not_false]
    repeat' (first | refine uU ?_ | refine uV fun z hz => ?_ | refine uW fun zs hzs => ?_ | refine dq (fun hq => ?_) fun hq => ?_)
    all_goals (refine fin_ret ?_; cbv)
theorem call52 (hR : Has R G c52) (an : Int) (han : 0 ≤ an ∧ an ≤ 4096) : ∀ (f : Fm), f.size < 2 ^ 31 → f.ok = true → f.num ≤ 4096 → (Lim R G).call 52 [.st 5 f.enc, .pl (.int .i64 (an))] [] = some (.pl (.int .i64 (f.tsz an)), []) := by
  refine Fm.ind fun k t ts as ih hs hok hnum => ?_
  have hc0 := call51 (hR.sub (by kernel_rfl)) _ hs
  rw [if_pos (Fm.err_zero hok hnum), Fm.err_zero hok hnum] at hc0
  obtain ⟨hk, _, ho1, ho2⟩ := Fm.ok_mk hok
  have hsz := Fm.tszs_b han as
  simp only [Fm.size] at hs
  refine call_of (hR.at 52 (by kernel_rfl) tab52) (by rfl) ?_
  simp only [Fm.tsz]
  simp only [Fm.num] at hnum
  generalize hnn : ((Fm.mk k t ts as).num : Int) = nn at hc0 ⊢
  have hnn2 : nn ≤ 4096 ∧ 0 ≤ nn := by simp only [Fm.num] at hnn; omega
  simp only [Fm.enc] at hc0 ⊢
  by_cases hk1 : k = 1
  · rw [if_pos hk1]
    generalize Ty.encs t.args = rt at *
    generalize t.kind = tk at *
    generalize Tm.encs ts = rs' at *
    generalize Fm.encs as = rs at *
    repeat' (first | refine uU ?_ | refine uV fun z hz => ?_ | refine uW fun zs hzs => ?_ | refine dq (fun hq => ?_) fun hq => ?_)
    (refine fin_ret ?_; rw [show nn + 2 + 2 * an = z by omega]; cbv)
  · rw [if_neg hk1]
    by_cases hk5 : k = 5
    · rw [if_pos hk5]
      obtain ⟨b, rfl⟩ : ∃ b, as = [b] := by
        unfold Fm.kindOk Fm.quant at hk
        match as, hk with
        | [b], _ => exact ⟨b, rfl⟩
        | [], hk => simp at hk; omega
        | _ :: _ :: _, hk => simp at hk; omega
      simp only [Fm.nums, Fm.sizes, Fm.tszs] at hnum hs hsz ⊢
      have hc := ih b (by simp) (by omega) (Fm.oks_cons ho2).1 (by omega)
      simp only [Fm.encs] at hc0 ⊢
      generalize Ty.encs t.args = rt at *
      generalize t.kind = tk at *
      generalize Tm.encs ts = rs' at *
      generalize Fm.enc b = rb at *
      generalize Fm.tsz b an = c at *
      repeat' (first | refine uU ?_ | refine uV fun z hz => ?_ | refine uW fun zs hzs => ?_ | refine dq (fun hq => ?_) fun hq => ?_)
      (refine fin_ret ?_; rw [show c + 0 + 3 + 2 * an = z by omega]; cbv)
    · rw [if_neg hk5]
      have hl := Fm.encs_len as
      have hl2 := Fm.sizes_len as
      generalize hr : Fm.encs as = rs at hl hc0 ⊢
      generalize Ty.encs t.args = rt at *
      generalize t.kind = tk at *
      generalize Tm.encs ts = rs' at *
      repeat' (first | refine uU ?_ | refine uV fun z hz => ?_ | refine uW fun zs hzs => ?_ | refine dq (fun hq => ?_) fun hq => ?_)
      refine wploop (σ := Int × Int) (fun x => [(38, .pl (.int .i64 x.1)), (5, .pl (.int .i64 x.2))]) (fun _ => []) (fun x => 0 ≤ x.1 ∧ x.1 ≤ as.length ∧ 0 ≤ x.2 ∧ x.2 + Fm.tszs (as.drop x.1.toNat) an = Fm.tszs as an + 1) (fun x => as.length - x.1.toNat) (0, 1) (by cbv) ⟨by omega, by omega, by omega, by simp <;> omega⟩ (by cbv) ?_
      rintro ⟨j, n⟩ ⟨hj1, hj2, hj3, hj4⟩
      dsimp only at hj1 hj2 hj3 hj4
      refine wp_at (by cbv) ?_
      by_cases hj : j < as.length
      · obtain ⟨a, ha, hd, he⟩ := Fm.at_ (as := as) (n := j) (by omega)
        rw [hr] at he
        rw [hd] at hj4
        simp only [Fm.tszs] at hj4
        have hc := ih a ha (by have := Fm.size_mem ha; omega) (Fm.oks_mem ho2 ha) (by have := Fm.num_mem ha; omega)
        (have h1 := Fm.tsz_b han a; have h2 := Fm.tszs_b han (as.drop (j + 1).toNat))
        generalize Fm.enc a = row at hc he
        generalize hcs : (Fm.tsz a an : Int) = c at hc
        repeat' (first | refine uU ?_ | refine uV fun z hz => ?_ | refine uW fun zs hzs => ?_ | refine dq (fun hq => ?_) fun hq => ?_)
        rename_i z1 hz1
        exact again_normal (z, z1) ⟨by dsimp only; omega, by dsimp only; omega, by dsimp only; omega, by dsimp only; rw [hz]; omega⟩ (by dsimp only; omega) (by cbv)
      · rw [drop_all hj1 (by omega)] at hj4
        simp only [Fm.tszs] at hj4
        repeat' (first | refine uU ?_ | refine uV fun z hz => ?_ | refine uW fun zs hzs => ?_ | refine dq (fun hq => ?_) fun hq => ?_)
        (refine fin_ret ?_; rw [show Fm.tszs as an + 1 = n by omega]; cbv)
end
end Eng

