/- TranslatePuts: the row and its card. -/
import Derived.Test.YtjfkhhfdfebpeaaGreatDoorLink2
import Derived.Test.YtjfkhhfdfebpeaaGreatDoorEngRow
import Derived.Test.YtjfkhhfdfebpeaaGreatDoorEngW33
import Derived.Test.YtjfkhhfdfebpeaaGreatDoorCards
import Derived.Test.YtjfkhhfdfebpeaaGreatDoorTie
import Derived.ChangeSame
import Derived.ChangeVars
import Derived.JoinedOf
import Derived.RowKit
import Derived.RowKitTokens
import Derived.LaidLaws
import Derived.Lib.LaidTab
import Derived.Handed
import Derived.Carry
import Derived.Stop.Joined
import Derived.SevenTiedAt
set_option linter.all false
set_option linter.unusedVariables false
set_option linter.unusedSimpArgs false
set_option maxRecDepth 100000
set_option maxHeartbeats 4000000
namespace Go.Proofs.YtjfkhhfdfebpeaaGreatDoor
open Go Eng Go.ChangeShapes Go.WideShapes Go.RowKit
theorem own : ownKnob Tryz.prog.godebug = none := by kernel_rfl
theorem laidOut : laidOutB Tryz.prog = true := by kernel_rfl
theorem gArN : Tryz.prog.globalNamed "proofprograms/tree.arities" = some 1 := by kernel_rfl
noncomputable def tys : Tys Tryz.prog where
  i := 3
  ty := 25
  tys := 23
  tm := 44
  tms := 26
  fm := 29
  fms := 27
  hi := Tryz.underlying3
  hty := ⟨_, _, Tryz.underlying25, ⟨rfl, rfl⟩, rfl, rfl⟩
  htys := Tryz.underlying23
  htm := ⟨_, _, _, _, Tryz.underlying44, ⟨rfl, rfl⟩, ⟨rfl, rfl⟩, ⟨rfl, rfl⟩, rfl, rfl⟩
  htms := Tryz.underlying26
  hfm := ⟨_, _, _, _, Tryz.underlying29, ⟨rfl, rfl⟩, ⟨rfl, rfl⟩, ⟨rfl, rfl⟩, rfl, rfl⟩
  hfms := Tryz.underlying27
  ci := by kernel_rfl
  cty := by kernel_rfl
  ctys := by kernel_rfl
  ctm := by kernel_rfl
  ctms := by kernel_rfl
  cfm := by kernel_rfl
  cfms := by kernel_rfl
noncomputable def laidWorld (os : Os) : World :=
  { World.holding Tryz.prog os ⟨#[], #[], []⟩ with heap := (World.holding Tryz.prog os ⟨#[], #[], []⟩).heap.modify 1 fun
      | .cells _ t frozen => .cells ([0, 0, 1, 2, 0, 1, 3, 0, 2, 3, 2, 1, 1, 0].map fun n => Value.int .i64 n).toArray t frozen
      | o => o }
theorem laidWorld_met (os : Os) (args : Array Value) : laidMetH Tryz.prog Rows.translatePutsRow.laid ((laidWorld os).forCall (fun _ _ => 0) ⟨#[], args, []⟩).memory :=
  show laidMet Tryz.prog Rows.translatePutsRow.laid _ from laidMet_of_run' 8 (by kernel_rfl) (by kernel_rfl)
noncomputable def zeroF : Value := .agg #[.int .i64 0, .int .i64 0, .slice none 0 0, .slice none 0 0, .slice none 0 0]
theorem ar_cells {W : World} (h : laidMetH Tryz.prog Rows.translatePutsRow.laid W) : ∃ cur T fr, W.heap[1]? = some (.cells cur T fr) ∧ cur.toList = [0, 0, 1, 2, 0, 1, 3, 0, 2, 3, 2, 1, 1, 0].map fun n => Value.int .i64 n := by
  have h' : laidMet Tryz.prog Rows.translatePutsRow.laid W := h
  have hT := Lib.tabIs_of_head (zs := [0, 0, 1, 2, 0, 1, 3, 0, 2, 3, 2, 1, 1, 0]) (k := .i64) (t := 222) (n := 14) gArN (by kernel_rfl) (by kernel_rfl) Tryz.underlying3 (by kernel_rfl) (by kernel_rfl) h'
  unfold Lib.TabIs at hT
  unfold World.var? at hT
  rw [gArN] at hT
  simp only [Option.bind_some] at hT
  split at hT
  · rename_i cur T fr hb
    refine ⟨cur, T, fr, hb, ?_⟩
    rw [Option.some.inj hT]
  · simp at hT
theorem lifted (os : Os) (started : os.Started) (H : Type) (enc : TypeId × Value → H) :
    ReturnsInHanded {} Tryz.checked os 4 .any (fun w args => (Rows.translatePutsSpec.pre enc Tryz.prog Tryz.f4 [] false w args ∧ laidMetH Tryz.prog Rows.translatePutsRow.laid w) ∧ sizedMet enc Tryz.prog Tryz.f4 (OpenSpec.ofChange Rows.translatePutsSpec) false w args)
      (Rows.translatePutsSpec.post enc Tryz.prog Tryz.f4 false true false false) := by
  refine returnsInHanded_of_change_and (C := Tryz.checked) (X := fun w _ => laidMetH Tryz.prog Rows.translatePutsRow.laid w) (fun _ _ _ hh h => h.of_heap hh) own started (by kernel_rfl) Tryz.func4
    (ChangeSpec.witness_at (enc := enc) (C := Tryz.checked) (os := os) (X := fun w _ => laidMetH Tryz.prog Rows.translatePutsRow.laid w) false (laidWorld os) #[.slice none 0 0] 8 rfl (by kernel_rfl) (by kernel_rfl) (by kernel_rfl) (by kernel_rfl) (by kernel_rfl) (laidWorld_met os _)) ?_
  intro W base args ds gs before hval0 hW _ _ hL _
  have hW' := hW
  obtain ⟨p, q, hA0, hV0, rfl, hfz, hnd⟩ := hW
  have hA : DataW.TrodAll enc Tryz.prog W 0 (fun _ => true) true Tryz.f4.params.toList args.toList ds p := hA0
  have hV : DataW.TrodVars enc Tryz.prog W (fun _ => true) [] gs q := hV0
  rw [Tryz.params4] at hA
  have hval : ∀ (j : Nat) t v, Tryz.f4.params[j]? = some t → args[j]? = some v → Value.okWide Tryz.prog W .any base t v := hval0
  rw [Tryz.params4] at hval
  obtain ⟨rfl, rfl⟩ : gs = [] ∧ q = [] := by
    cases gs with
    | nil => exact ⟨rfl, hV⟩
    | cons g r => exact absurd hV (by intro h; cases h)
  obtain ⟨v0, d0, rfl, rfl, h0⟩ := trodAll_one hA
  have hlt : ∀ x ∈ p ++ [], x.block < W.heap.size := hW'.lt
  simp only [List.append_nil] at hlt hW'
  obtain ⟨a0, len, cap, rfl⟩ := okWide_slice Tryz.underlying22 (hval 0 22 v0 rfl rfl)
  obtain ⟨fuel0, hf0⟩ := id h0
  obtain ⟨l, hl⟩ := ints_of tys Tryz.underlying22 hf0
  obtain ⟨cur, T, fr, hb, hc⟩ := ar_cells hL
  have hG : GRel Xg (Kf W) W := grel_of rfl hb hc
  have e1 : Rows.translatePutsSpec.fn H ([d0] ++ []) = { results := [.lit (.bool true)], args := [d0] } := rfl
  refine (row_of linked (call113 (hasL.sub (by kernel_rfl)) l) hG ⟨_, _, rfl, hl, rfl⟩).mono ?_
  rintro e W' ⟨rfl, bel⟩
  refine ⟨_, rfl, _, _, _, [], p, [], hW', ?_, ?_, ?_, bel.frame _, fun h => by cases h⟩
  · rw [e1]; exact trodAll_mk1 (shut_bool Tryz.underlying4 true)
  · rw [e1]
    exact trodAll_mk1 (Below.trod laidOut (by kernel_rfl) (of_decide_eq_true (by kernel_rfl)) h0 bel (fun x hx => hlt x (by simp [hx])))
  · rw [e1]; rfl
theorem holds : Rows.TranslatePutsSaid :=
  OpenClaim.holds_of_wide 4 Tryz.f4 rfl rfl rfl rfl rfl rfl rfl ⟨rfl, rfl, rfl, rfl, rfl⟩ rfl rfl rfl rfl rfl (by kernel_rfl) Tryz.func4 (by kernel_rfl)
    (of_decide_eq_true (by kernel_rfl)) (by unfold Func.isWrapper; rw [if_neg (of_decide_eq_false (by kernel_rfl))]; exact ⟨rfl, rfl⟩)
    (fun os started H enc _ => lifted os started H enc)
theorem card_holds : Rows.TranslatePutsCardSaid :=
  Claim7.holds_tied_plain_at .later [] [.data] true (true, "4a5b0fd9477dc29552b34949e6965fd94b528077639e8fc4f9a5c4fe34292273") true
    holds (fun _ h => by cases h) (by kernel_rfl) (fun _ h => by cases h) translatePuts_row_tie rfl ⟨rfl, rfl⟩ (by kernel_rfl) rfl
    (fun f fn hf hfn => by
      obtain rfl : f = 4 := Option.some.inj ((show Tryz.prog.funcNamed "proofprograms/proofprogramslaw20.TranslatePuts" = some 4 by kernel_rfl).symm.trans hf) |>.symm
      obtain rfl : fn = Tryz.f4 := (Option.some.inj (Tryz.func4.symm.trans hfn)).symm
      exact ⟨by kernel_rfl, fun j t ht => by
        rw [Tryz.params4] at ht
        have h3 : t = 22 := by
          rcases j with _ | j
          · simpa using ht.symm
          · simp at ht
        subst h3
        exact (show Tryz.prog.wantsStandIn 22 = false by kernel_rfl)⟩)
    (by kernel_rfl)
end Go.Proofs.YtjfkhhfdfebpeaaGreatDoor

