/- The program's translation of formulas. -/
import Derived.Test.YtjfkhhfdfebpeaaGreatDoorEngT
import Derived.Test.YtjfkhhfdfebpeaaGreatDoorEngTab
import Derived.Test.YtjfkhhfdfebpeaaGreatDoorEngW9
import Derived.Test.YtjfkhhfdfebpeaaGreatDoorEngZ
set_option linter.all false
set_option linter.unusedVariables false
set_option linter.unusedSimpArgs false
set_option maxRecDepth 100000
set_option maxHeartbeats 4000000
namespace Eng
open Go
section
variable {R : RProg} {G : Nat → AV}
theorem call55 (hR : Has R G c55) (k : Int) (rs : List (List PV)) : (Lim R G).call 55 [.pl (.int .i64 (k)), .pl (.sl 5 (rs))] [] = some (.st 5 [.int .i64 k, .int .i64 0, .sl 2 [], .sl 5 [], .sl 5 rs], []) := by
  refine call_of (hR.at 55 (by kernel_rfl) tab55) (by rfl) ?_
  repeat' (first | refine uU ?_ | refine uV fun z hz => ?_ | refine uW fun zs hzs => ?_ | refine dq (fun hq => ?_) fun hq => ?_)
  (refine fin_ret ?_; cbv)
theorem call56 (hR : Has R G c56) (k : Int) (tk : Int) (rt : List (List PV)) (row : List PV) : (Lim R G).call 56 [.pl (.int .i64 (k)), .st 2 [.int .i64 tk, .sl 2 rt], .st 5 row] [] = some (.st 5 [.int .i64 k, .int .i64 tk, .sl 2 rt, .sl 5 [], .sl 5 [row]], []) := by
  refine call_of (hR.at 56 (by kernel_rfl) tab56) (by rfl) ?_
  repeat' (first | refine uU ?_ | refine uV fun z hz => ?_ | refine uW fun zs hzs => ?_ | refine dq (fun hq => ?_) fun hq => ?_)
  (refine fin_ret ?_; cbv)
theorem call54 (hR : Has R G c54) (a b : List PV) : (Lim R G).call 54 [.st 5 a, .st 5 b] [] = some (.st 5 [.int .i64 3, .int .i64 0, .sl 2 [], .sl 5 [], .sl 5 [a, b]], []) := by
  have hc := call55 (hR.sub (by kernel_rfl)) 3 [a, b]
  refine call_of (hR.at 54 (by kernel_rfl) tab54) (by rfl) ?_
  repeat' (first | refine uU ?_ | refine uV fun z hz => ?_ | refine uW fun zs hzs => ?_ | refine dq (fun hq => ?_) fun hq => ?_)
  (refine fin_ret ?_; cbv)
theorem call23 (hR : Has R G c23) (a : Fm) : (Lim R G).call 23 [.st 5 a.enc] [] = some (.ptr 0 0, [.box 2 (.agg [.own 1 0, .pl (.int .i64 (1048576))]), .buf 5 [a.enc] 0]) := by
  refine call_of (hR.at 23 (by kernel_rfl) tab23) (by rfl) ?_
  generalize a.enc = row at *
  repeat' (first | refine uU ?_ | refine uV fun z hz => ?_ | refine uW fun zs hzs => ?_ | refine dq (fun hq => ?_) fun hq => ?_)
  (refine fin_ret ?_; cbv)
theorem call53 (hR : Has R G c53) (a : Fm) (room : Int) (hok : a.ok = true) (hlow : a.low (2 ^ 30)) (hs : a.size < 2 ^ 31) (n : Nat) (b : Nat) (hn : 1 ≤ n ∧ n < 2 ^ 20) (hb : b < 2 ^ 20) :
    (Lim R G).call 53 [.ptr 0 0, .pl (.int .i64 ((b : Int)))] [.box 2 (.agg [.own 1 0, .pl (.int .i64 (room))]), .buf 5 (Fm.encs (a.anss n)) 0] =
      some (.st 5 (a.ups1 b).enc, [.box 2 (.agg [.own 1 0, .pl (.int .i64 (room))]), .buf 5 (Fm.encs (a.anss (max n (b + 1)))) 0]) := by
  refine call_of (hR.at 53 (by kernel_rfl) tab53) (by rfl) ?_
  generalize hbi : (b : Int) = bi
  generalize hro : Fm.encs (a.anss (max n (b + 1))) = ro
  generalize hr0 : Fm.encs (a.anss n) = r0
  generalize hra : (a.ups1 b).enc = ra
  repeat' (first | refine uU ?_ | refine uV fun z hz => ?_ | refine uW fun zs hzs => ?_ | refine dq (fun hq => ?_) fun hq => ?_)
  refine wploop (σ := Nat × List (List PV)) (fun x => []) (fun x => [(1, .buf 5 x.2 0)]) (fun x => x.2 = Fm.encs (a.anss x.1) ∧ n ≤ x.1 ∧ x.1 ≤ max n (b + 1)) (fun x => b + 1 - x.1) (n, r0) (by cbv) ⟨hr0.symm, by omega, by omega⟩ (by cbv) ?_
  rintro ⟨m, rows⟩ ⟨h1, h2, h3⟩
  dsimp only at h1 h2 h3
  have hl : rows.length = m := by rw [h1, Fm.encs_len, Fm.anss_len]
  refine wp_at (by cbv) ?_
  by_cases hj : m ≤ b
  · obtain ⟨row, hrow⟩ : ∃ row, (a.ups1 (m - 1)).enc = row := ⟨_, rfl⟩
    have hg : ∀ z : Int, z = rows.length - 1 → rows.getD z.toNat [] = row := fun z hz => by
      rw [h1, show z.toNat = m - 1 by omega, Fm.anss_get (by omega), hrow]
    have hc := call75 (hR.sub (by kernel_rfl)) (a.ups1 (m - 1)) 0 1 (Fm.low_mono (by omega) _ (Fm.ups1_low hlow (m - 1))) (by rw [Fm.ups1_size]; exact hs) (by omega) (by omega)
    rw [Fm.lift_up (Fm.ups1_ok hok _), hrow, show (a.ups1 (m - 1)).up 0 1 = a.ups1 m by obtain ⟨q, rfl⟩ : ∃ q, m = q + 1 := ⟨m - 1, by omega⟩; rfl] at hc
    have hnew := Fm.anss_succ a m
    rw [← h1] at hnew
    generalize (a.ups1 m).enc = rn at hc hnew
    repeat' (first | refine uU ?_ | refine uV fun z hz => ?_ | refine uW fun zs hzs => ?_ | refine dq (fun hq => ?_) fun hq => ?_)
    refine di ?_ (hr := hg _ (by omega))
    repeat' (first | refine uU ?_ | refine uV fun z hz => ?_ | refine uW fun zs hzs => ?_ | refine dq (fun hq => ?_) fun hq => ?_)
    exact again_normal (m + 1, zs) ⟨by dsimp only; rw [hzs, hnew], by dsimp only; omega, by dsimp only; omega⟩ (by dsimp only; omega) (by cbv)
  · have hm : m = max n (b + 1) := by omega
    rw [hm, hro] at h1
    have hg : rows.getD bi.toNat [] = ra := by
      rw [h1, ← hro, show bi.toNat = b by omega, Fm.anss_get (by omega), hra]
    repeat' (first | refine uU ?_ | refine uV fun z hz => ?_ | refine uW fun zs hzs => ?_ | refine dq (fun hq => ?_) fun hq => ?_)
    (refine fin_ret ?_; rw [← h1]; cbv)
end
end Eng

