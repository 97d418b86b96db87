/- The program's Formula. -/
import Derived.Test.YtjfkhhfdfebpeaaGreatDoorEngT
import Derived.Test.YtjfkhhfdfebpeaaGreatDoorEngTab
import Derived.Test.YtjfkhhfdfebpeaaGreatDoorEngW10
import Derived.Test.YtjfkhhfdfebpeaaGreatDoorEngW11
import Derived.Test.YtjfkhhfdfebpeaaGreatDoorEngW12
import Derived.Test.YtjfkhhfdfebpeaaGreatDoorEngW9
import Derived.Test.YtjfkhhfdfebpeaaGreatDoorEngZ
set_option linter.all false
set_option linter.unusedVariables false
set_option linter.unusedSimpArgs false
set_option maxRecDepth 100000
set_option maxHeartbeats 4000000
namespace Eng
open Go
section
variable {R : RProg} {G : Nat → AV}
theorem call22 (hR : Has R G c22) (a f : Fm) (ha : a.size < 2 ^ 31) (hf : f.size < 2 ^ 31) : (Lim R G).call 22 [.st 5 a.enc, .st 5 f.enc] [] = some (.pl (.int .i64 (a.lookE f)), []) := by
  have h1 := call48 (hR.sub (by kernel_rfl)) a ha
  have h2 := call48 (hR.sub (by kernel_rfl)) f hf
  have h3 := call49 (hR.sub (by kernel_rfl)) f hf
  have h4 := call50 (hR.sub (by kernel_rfl)) a 0 1 ha (by omega) (by omega)
  have h5 := call51 (hR.sub (by kernel_rfl)) a ha
  have h6 : a.err = 0 → f.err = 0 → _ := fun ea ef => call52 (hR.sub (by kernel_rfl)) a.num (by have := (Fm.err_ok ea).2; omega) f hf (Fm.err_ok ef).1 (Fm.err_ok ef).2
  unfold Fm.lookE
  refine call_of (hR.at 22 (by kernel_rfl) tab22) (by rfl) ?_
  by_cases e1 : a.err = 0
  · rw [if_neg (by simp [e1])]
    rw [e1] at h1
    rw [if_pos e1, e1] at h5
    rw [if_pos e1] at h4
    by_cases e2 : f.err = 0
    · have h7 := h6 e1 e2
      rw [if_neg (by simp [e2])]
      rw [e2] at h2
      generalize Fm.enc (if a.err = 0 ∧ a.least 536870912 = true then a.up 0 1 else Fm.zero) = rl at h4
      clear h6
      generalize a.enc = ra at *
      generalize f.enc = rf at *
      generalize f.tsz a.num = sz at *
      generalize (a.num : Int) = an at *
      cases hn : f.nu with
      | false =>
        rw [hn, Bool.not_false] at h3
        rw [if_pos rfl]
        repeat' (first | refine uU ?_ | refine uV fun z hz => ?_ | refine uW fun zs hzs => ?_ | refine dq (fun hq => ?_) fun hq => ?_)
        (refine fin_ret ?_; cbv)
      | true =>
        rw [hn, Bool.not_true] at h3
        rw [if_neg (by simp)]
        cases hl : a.least 536870912 with
        | false =>
          rw [hl, if_neg (by simp)] at h4
          rw [if_pos rfl]
          repeat' (first | refine uU ?_ | refine uV fun z hz => ?_ | refine uW fun zs hzs => ?_ | refine dq (fun hq => ?_) fun hq => ?_)
          (refine fin_ret ?_; cbv)
        | true =>
          rw [hl, if_pos rfl] at h4
          rw [if_neg (by simp)]
          repeat' (first | refine uU ?_ | refine uV fun z hz => ?_ | refine uW fun zs hzs => ?_ | refine dq (fun hq => ?_) fun hq => ?_)
          · (refine fin_ret ?_; rw [if_pos (by omega)]; cbv)
          · (refine fin_ret ?_; rw [if_neg (by omega)]; cbv)
    · rw [if_pos e2]
      clear h4 h6
      generalize a.enc = ra at *
      generalize f.enc = rf at *
      generalize f.err = er at *
      repeat' (first | refine uU ?_ | refine uV fun z hz => ?_ | refine uW fun zs hzs => ?_ | refine dq (fun hq => ?_) fun hq => ?_)
      (refine fin_ret ?_; cbv)
  · rw [if_pos e1]
    clear h4 h6 h5
    generalize a.enc = ra at *
    generalize f.enc = rf at *
    generalize a.err = er at *
    repeat' (first | refine uU ?_ | refine uV fun z hz => ?_ | refine uW fun zs hzs => ?_ | refine dq (fun hq => ?_) fun hq => ?_)
    (refine fin_ret ?_; cbv)
theorem call9 (hR : Has R G c9) (a f : Fm) (ha : a.size < 2 ^ 31) (hf : f.size < 2 ^ 31) : (Lim R G).call 9 [.st 5 a.enc, .st 5 f.enc] [] = some (.tup [.st 5 (Fm.enc (if a.lookE f = 0 then f.Tr a else Fm.zero)), .pl (.int .i64 (a.lookE f))], []) := by
  have h1 := call22 (hR.sub (by kernel_rfl)) a f (by omega) (by omega)
  have h2 := call23 (hR.sub (by kernel_rfl)) a
  have h3 : a.lookE f = 0 → _ := fun h => by
    obtain ⟨e1, e2, e3, e4, _⟩ := Fm.lookE_zero h
    have hok := (Fm.err_ok e1).1
    have k2 := Fm.err_ok e2
    have k3 := Fm.size_num f k2.1
    exact call24 (hR.sub (by kernel_rfl)) a 1048576 hok (Fm.low_mono (by omega) a (Fm.low_of a hok e4)) (by omega) f 0 1 (Fm.err_ok e2).1 e3 (by omega) (by omega)
  have h4 : a.lookE f = 0 → _ := fun h => by
    obtain ⟨e1, e2, e3, e4, e5⟩ := Fm.lookE_zero h
    have o := Fm.Tr_ok1 f a (Fm.err_ok e2).1 e3 (Fm.err_ok e1).1
    have n := Fm.Tr_num f a (Fm.err_ok e2).1 e3
    have k := Fm.size_num _ o
    exact call25 (hR.sub (by kernel_rfl)) (f.Tr a) (by omega)
  refine call_of (hR.at 9 (by kernel_rfl) tab9) (by rfl) ?_
  by_cases e : a.lookE f = 0
  · have h5 := h3 e
    have h4 := h4 e
    rw [Fm.reb_id] at h4
    rw [if_pos e]
    rw [e] at h1 ⊢
    clear h3
    unfold trO at h5
    rw [show a.anss 1 = [a] from rfl, show a.ups1 0 = a from rfl, show ((0 : Nat) : Int) = 0 from rfl] at h5
    simp only [Fm.encs] at h5
    generalize Fm.encs (a.anss _) = q1 at h5
    generalize a.enc = ra at *
    generalize f.enc = rf at *
    generalize (f.Tr a).enc = ro at *
    repeat' (first | refine uU ?_ | refine uV fun z hz => ?_ | refine uW fun zs hzs => ?_ | refine dq (fun hq => ?_) fun hq => ?_)
    (refine fin_ret ?_; cbv)
  · rw [if_neg e]
    simp only [Fm.zero, Fm.enc, Ty.kind_mk, Ty.args_mk, Ty.encs_nil, Tm.encs, Fm.encs]
    clear h3 h4
    generalize a.enc = ra at *
    generalize f.enc = rf at *
    generalize a.lookE f = er at *
    repeat' (first | refine uU ?_ | refine uV fun z hz => ?_ | refine uW fun zs hzs => ?_ | refine dq (fun hq => ?_) fun hq => ?_)
    (refine fin_ret ?_; cbv)
end
end Eng

