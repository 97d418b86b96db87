/- The program's functions on formulas: form, lifting. -/
import Derived.Test.YtjfkhhfdfebpeaaGreatDoorEngT
import Derived.Test.YtjfkhhfdfebpeaaGreatDoorEngTab
import Derived.Test.YtjfkhhfdfebpeaaGreatDoorEngW5
import Derived.Test.YtjfkhhfdfebpeaaGreatDoorEngW7
import Derived.Test.YtjfkhhfdfebpeaaGreatDoorEngW8
import Derived.Test.YtjfkhhfdfebpeaaGreatDoorEngZ
set_option linter.all false
set_option linter.unusedVariables false
set_option linter.unusedSimpArgs false
set_option maxRecDepth 100000
set_option maxHeartbeats 4000000
namespace Eng
open Go
section
variable {R : RProg} {G : Nat → AV}
theorem call76 (hR : Has R G c76) : ∀ (f : Fm), f.size < 2 ^ 31 → (Lim R G).call 76 [.st 5 f.enc] [] = some (.tup [.pl (.int .i64 (bif f.ok then f.num else 0)), .pl (.bool (f.ok))], []) := by
  refine Fm.ind fun k t ts as ih hs => ?_
  have hc0 := call87 (hR.sub (by kernel_rfl)) _ hs k t ts as rfl
  simp only [Fm.size] at hs
  refine call_of (hR.at 76 (by kernel_rfl) tab76) (by rfl) ?_
  simp only [Fm.enc, Fm.ok, Fm.num] at hc0 ⊢
  generalize hok : Fm.tyOk k t = ty at hc0 ⊢
  rw [← Bool.and_assoc]
  generalize (decide (Fm.kindOk k ts.length as.length) && ty) = x0 at hc0 ⊢
  clear hok
  generalize hok : (x0 && (Tm.oks ts && Fm.oks as)) = ok
  have hl := Fm.encs_len as
  have hl2 := Fm.sizes_len as
  have hl3 := Fm.nums_le as
  generalize hr : Fm.encs as = rs at hl hc0 ⊢
  have hl' := Tm.encs_len ts
  have hl2' := Tm.sizes_len ts
  have hl3' := Tm.nums_le ts
  generalize hr' : Tm.encs ts = rs' at hl' hc0 ⊢
  generalize Ty.encs t.args = rt at *
  generalize t.kind = tk at *
  cases x0 with
  | false =>
    rw [Bool.false_and] at hok
    subst hok
    repeat' (first | refine uU ?_ | refine uV fun z hz => ?_ | refine uW fun zs hzs => ?_ | refine dq (fun hq => ?_) fun hq => ?_)
    (refine fin_ret ?_; cbv)
  | true =>
    rw [Bool.true_and] at hok
    repeat' (first | refine uU ?_ | refine uV fun z hz => ?_ | refine uW fun zs hzs => ?_ | refine dq (fun hq => ?_) fun hq => ?_)
    refine wploop (σ := Int × Int) (fun x => [(19, .pl (.int .i64 x.1)), (4, .pl (.int .i64 x.2))]) (fun _ => []) (fun x => 0 ≤ x.1 ∧ x.1 ≤ ts.length ∧ 0 ≤ x.2 ∧ x.2 + Tm.nums (ts.drop x.1.toNat) = Tm.nums ts + 1 ∧ Tm.oks ts = Tm.oks (ts.drop x.1.toNat)) (fun x => ts.length - x.1.toNat) (0, 1) (by cbv) ⟨by omega, by omega, by omega, by simp; omega, by simp⟩ (by cbv) ?_
    rintro ⟨j, n⟩ ⟨hj1, hj2, hj3, hj4, hj5⟩
    dsimp only at hj1 hj2 hj3 hj4 hj5
    refine wp_at (by cbv) ?_
    by_cases hj : j < ts.length
    · obtain ⟨a, ha, hd, he⟩ := Tm.at_ (as := ts) (n := j) (by omega)
      rw [hr'] at he
      rw [hd] at hj4 hj5
      simp only [Tm.nums] at hj4
      simp only [Tm.oks] at hj5
      have hc := call88 (hR.sub (by kernel_rfl)) a (by have := Tm.size_mem ha; omega)
      generalize Tm.enc a = row at hc he
      cases hb : Tm.ok a with
      | false =>
        rw [hb] at hc hj5
        simp only [Bool.false_and] at hj5
        repeat' (first | refine uU ?_ | refine uV fun z hz => ?_ | refine uW fun zs hzs => ?_ | refine dq (fun hq => ?_) fun hq => ?_)
        all_goals (refine fin_ret ?_; rw [← hok, hj5, Bool.false_and, cond_false]; cbv)
      | true =>
        rw [hb] at hc hj5
        simp only [Bool.true_and, cond_true] at hc hj5
        generalize hcs : ((Tm.num a : Nat) : Int) = c at hc
        repeat' (first | refine uU ?_ | refine uV fun z hz => ?_ | refine uW fun zs hzs => ?_ | refine dq (fun hq => ?_) fun hq => ?_)
        all_goals (
          rename_i z1 hz1
          exact again_normal (z, z1) ⟨by dsimp only; omega, by dsimp only; omega, by dsimp only; omega, by dsimp only; rw [hz]; omega, by dsimp only; rw [hj5, hz]⟩ (by dsimp only; omega) (by cbv))
    · rw [drop_all hj1 (by omega)] at hj4 hj5
      simp only [Tm.nums] at hj4
      simp only [Tm.oks] at hj5
      repeat' (first | refine uU ?_ | refine uV fun z hz => ?_ | refine uW fun zs hzs => ?_ | refine dq (fun hq => ?_) fun hq => ?_)
      rw [hj5] at hok
      rw [Bool.true_and] at hok
      clear hj3 hj5
      obtain ⟨m, hmn⟩ : ∃ m, m = n := ⟨n, rfl⟩
      subst hmn
      repeat' (first | refine uU ?_ | refine uV fun z hz => ?_ | refine uW fun zs hzs => ?_ | refine dq (fun hq => ?_) fun hq => ?_)
      refine wploop (σ := Int × Int) (fun x => [(37, .pl (.int .i64 x.1)), (4, .pl (.int .i64 x.2))]) (fun _ => []) (fun x => 0 ≤ x.1 ∧ x.1 ≤ as.length ∧ 0 ≤ x.2 ∧ x.2 + Fm.nums (as.drop x.1.toNat) = Fm.nums as + m ∧ Fm.oks as = Fm.oks (as.drop x.1.toNat)) (fun x => as.length - x.1.toNat) (0, m) (by cbv) ⟨by omega, by omega, by omega, by simp; omega, by simp⟩ (by cbv) ?_
      rintro ⟨j, n⟩ ⟨hj1, hj2, hj3, hj4, hj5⟩
      dsimp only at hj1 hj2 hj3 hj4 hj5
      refine wp_at (by cbv) ?_
      by_cases hj : j < as.length
      · obtain ⟨a, ha, hd, he⟩ := Fm.at_ (as := as) (n := j) (by omega)
        rw [hr] at he
        rw [hd] at hj4 hj5
        simp only [Fm.nums] at hj4
        simp only [Fm.oks] at hj5
        have hc := ih a ha (by have := Fm.size_mem ha; omega)
        generalize Fm.enc a = row at hc he
        cases hb : Fm.ok a with
        | false =>
          rw [hb] at hc hj5
          simp only [Bool.false_and] at hj5
          repeat' (first | refine uU ?_ | refine uV fun z hz => ?_ | refine uW fun zs hzs => ?_ | refine dq (fun hq => ?_) fun hq => ?_)
          all_goals (refine fin_ret ?_; rw [← hok, hj5, cond_false]; cbv)
        | true =>
          rw [hb] at hc hj5
          simp only [Bool.true_and, cond_true] at hc hj5
          generalize hcs : ((Fm.num a : Nat) : Int) = c at hc
          repeat' (first | refine uU ?_ | refine uV fun z hz => ?_ | refine uW fun zs hzs => ?_ | refine dq (fun hq => ?_) fun hq => ?_)
          all_goals (
            rename_i z1 hz1
            exact again_normal (z, z1) ⟨by dsimp only; omega, by dsimp only; omega, by dsimp only; omega, by dsimp only; rw [hz]; omega, by dsimp only; rw [hj5, hz]⟩ (by dsimp only; omega) (by cbv))
      · rw [drop_all hj1 (by omega)] at hj4 hj5
        simp only [Fm.nums] at hj4
        simp only [Fm.oks] at hj5
        repeat' (first | refine uU ?_ | refine uV fun z hz => ?_ | refine uW fun zs hzs => ?_ | refine dq (fun hq => ?_) fun hq => ?_)
        (refine fin_ret ?_; rw [← hok, hj5, cond_true, show ((Tm.nums ts + Fm.nums as + 1 : Nat) : Int) = n by omega]; cbv)
theorem call51 (hR : Has R G c51) (f : Fm) (hs : f.size < 2 ^ 31) : (Lim R G).call 51 [.st 5 f.enc] [] = some (.tup [.pl (.int .i64 (if f.err = 0 then (f.num : Int) else 0)), .pl (.int .i64 (f.err))], []) := by
  have hc := call76 (hR.sub (by kernel_rfl)) f hs
  have hn := Fm.num_le f
  refine call_of (hR.at 51 (by kernel_rfl) tab51) (by rfl) ?_
  unfold Fm.err
  generalize (f.num : Nat) = n at *
  generalize f.enc = row at *
  cases hok : f.ok with
  | false =>
    rw [hok, cond_false] at hc
    repeat' (first | refine uU ?_ | refine uV fun z hz => ?_ | refine uW fun zs hzs => ?_ | refine dq (fun hq => ?_) fun hq => ?_)
    (refine fin_ret ?_; rw [if_neg (by simp), if_neg (by simp)]; cbv)
  | true =>
    rw [hok, cond_true] at hc
    generalize hni : (n : Int) = ni at *
    repeat' (first | refine uU ?_ | refine uV fun z hz => ?_ | refine uW fun zs hzs => ?_ | refine dq (fun hq => ?_) fun hq => ?_)
    · (refine fin_ret ?_; rw [if_pos rfl, if_pos (show n > 4096 by omega), if_neg (by decide)]; cbv)
    · (refine fin_ret ?_; rw [if_pos rfl, if_neg (show ¬ n > 4096 by omega), if_pos rfl]; cbv)
theorem call48 (hR : Has R G c48) (f : Fm) (hs : f.size < 2 ^ 31) : (Lim R G).call 48 [.st 5 f.enc] [] = some (.pl (.int .i64 (f.err)), []) := by
  have hc := call51 (hR.sub (by kernel_rfl)) f hs
  refine call_of (hR.at 48 (by kernel_rfl) tab48) (by rfl) ?_
  generalize (if f.err = 0 then (f.num : Int) else 0) = n at *
  generalize f.enc = row at *
  generalize f.err = e at *
  repeat' (first | refine uU ?_ | refine uV fun z hz => ?_ | refine uW fun zs hzs => ?_ | refine dq (fun hq => ?_) fun hq => ?_)
  (refine fin_ret ?_; cbv)
theorem call73 (hR : Has R G c73) (n : Int) : (Lim R G).call 73 [.pl (.int .i64 (n))] [] = some (.pl (.bool (decide (0 ≤ n ∧ n ≤ 4096))), []) := by
  refine call_of (hR.at 73 (by kernel_rfl) tab73) (by rfl) ?_
  repeat' (first | refine uU ?_ | refine uV fun z hz => ?_ | refine uW fun zs hzs => ?_ | refine dq (fun hq => ?_) fun hq => ?_)
  all_goals first
    | (refine fin_ret ?_; rw [decide_eq_true (by omega)]; cbv)
    | (refine fin_ret ?_; rw [decide_eq_false (by omega)]; cbv)
theorem call25 (hR : Has R G c25) (f : Fm) (hs : f.size < 2 ^ 31) : (Lim R G).call 25 [.st 5 f.enc] [] = some (.st 5 (Fm.reb (fun t _ => t) f 0).enc, []) := by
  have hc := call58O (hR.sub (by kernel_rfl)) (F := fun t _ => t) (fun t b ht _ => call59 (hR.sub (by kernel_rfl)) t b ht) f 0 (by omega)
  refine call_of (hR.at 25 (by kernel_rfl) tab25) (by rfl) ?_
  generalize f.enc = row at *
  generalize Fm.enc (Fm.reb _ f 0) = ro at *
  repeat' (first | refine uU ?_ | refine uV fun z hz => ?_ | refine uW fun zs hzs => ?_ | refine dq (fun hq => ?_) fun hq => ?_)
  (refine fin_ret ?_; cbv)
theorem call75 (hR : Has R G c75) (f : Fm) (fr d : Int) (hlow : f.low (2 ^ 40)) (hs : f.size < 2 ^ 31) (hf : 0 ≤ fr ∧ fr ≤ 2 ^ 40) (hd : -2 ^ 40 < d ∧ d < 2 ^ 40) :
    (Lim R G).call 75 [.st 5 f.enc, .pl (.int .i64 (fr)), .pl (.int .i64 (d))] [] = some (.st 5 (f.lift fr d).enc, []) := by
  have hc := call58A (hR.sub (by kernel_rfl)) (F := fun t b => t.lift (fr + b) d) (fun t b ht hb => call86 (hR.sub (by kernel_rfl)) t b fr d ht.1 ht.2 hb hf hd) f 0 ⟨hlow, hs, by omega⟩
  refine call_of (hR.at 75 (by kernel_rfl) tab75) (by rfl) ?_
  unfold Fm.lift
  generalize f.enc = row at *
  generalize Fm.enc (Fm.reb _ f 0) = ro at *
  repeat' (first | refine uU ?_ | refine uV fun z hz => ?_ | refine uW fun zs hzs => ?_ | refine dq (fun hq => ?_) fun hq => ?_)
  (refine fin_ret ?_; cbv)
end
end Eng

