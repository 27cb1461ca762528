/-
  The law MemberPlays holds: whatever the input, the Go function returns true, and each argument reads as it did. Conditions: none beyond the statement's own.
-/
import Derived.Test.YtkoakmaihcheaabDoorRows
import Derived.Test.YtkoakmaihcheaabDoorTie
import Derived.Test.YtkoakmaihcheaabDoorCards
import Derived.Test.YtkoakmaihcheaabDoorGLm
import Derived.Test.YtkoakmaihcheaabDoorP5
import Derived.ChangeSame
import Derived.ChangeVars
import Derived.JoinedOf
import Derived.RowKit
import Derived.RowKitTokens
import Derived.LaidLaws
import Derived.LaidHandle
import Derived.Stop.Joined
import Derived.SevenTiedAt
namespace Go.Proofs.YtkoakmaihcheaabDoor
open Go Go.GL Go.ChangeShapes Go.WideShapes Go.ChangeAt Go.RowKit
open Go.ChangeMaps (open_string shut_string)
set_option linter.unusedVariables false

theorem ownMemberPlays : ownKnob Tryd.prog.godebug = none := by kernel_rfl
theorem laidOutMemberPlays : laidOutB Tryd.prog = true := by kernel_rfl
theorem etMemberPlays : Tryd.prog.globalNamed "errors.errorType" = some 0 := by kernel_rfl
theorem rtMemberPlays : (Tryd.prog.cutTypes.find? (·.1 == "internal/reflectlite.rtype")).map (·.2) = some 126 := by kernel_rfl
theorem oneRowMemberPlays : ((List.range 172).filter fun t => Tryd.prog.rowNamed t [101, 114, 114, 111, 114]) = [26] := by kernel_rfl
theorem sizeMemberPlays : Tryd.prog.types.size = 172 := by kernel_rfl
theorem handleMemberPlays {W : World} (h : laidMetH Tryd.prog [("errors.errorType", Rows.laid_errors_errorType)] W) : W.cell? ⟨0, 0, none⟩ = some errT := by
  have h' : laidMet Tryd.prog [] W ∧ handlesMet Tryd.prog [("errors.errorType", Rows.laid_errors_errorType)] W := h
  obtain ⟨name, u, ty, e1, e2, e3, e4, e5⟩ := h'.2 _ (List.mem_singleton.2 rfl)
  have en : name = [101, 114, 114, 111, 114] := (Option.some.inj e1).symm
  subst en
  obtain rfl := Option.some.inj (rtMemberPlays.symm.trans e2)
  have hm : ty ∈ (List.range 172).filter fun t => Tryd.prog.rowNamed t [101, 114, 114, 111, 114] := List.mem_filter.2 ⟨List.mem_range.2 (by rw [← sizeMemberPlays]; exact e3), e4⟩
  rw [oneRowMemberPlays] at hm
  obtain rfl := List.mem_singleton.1 hm
  have hh : typeHandle Tryd.prog 26 = .pointer (some ⟨1, 26, none⟩) := by kernel_rfl
  rw [hh] at e5
  have := World.var?_cell etMemberPlays e5 0
  simpa [errT, rt, hd] using this
theorem cellAt_of {w : World} {b off : Nat} {v : Value} (h : w.cell? ⟨b, off, none⟩ = some v) : cellAt b off v (hpOf w) := by
  unfold World.cell? at h
  split at h
  · rename_i c T fr hb
    exact ⟨c, T, fr, hpOf_obj.2 hb, by simpa using h⟩
  · cases h
noncomputable def laidWorld (os : Os) : World :=
  let w0 := World.holding Tryd.prog os ⟨#[], #[], []⟩
  { w0 with heap := w0.heap.modify 0 fun
      | .cells _ t frozen => .cells #[.iface 126 (.agg #[.pointer (some ⟨1, 26, none⟩)])] t frozen
      | o => o }
theorem laidWorld_met (os : Os) (args : Array Value) : laidMetH Tryd.prog [("errors.errorType", Rows.laid_errors_errorType)] ((laidWorld os).forCall (fun _ _ => 0) ⟨#[], args, []⟩).memory :=
  laidMetH_of_parts (laidMet_nil _ _) (by kernel_rfl)
set_option maxRecDepth 100000 in
theorem liftedMemberPlays (os : Os) (started : os.Started) (H : Type) (enc : TypeId × Value → H) :
    ReturnsInHanded {} Tryd.checked os 5 .any (fun w args => (Rows.memberPlaysSpec.pre enc Tryd.prog Tryd.f5 [] false w args ∧ laidMetH Tryd.prog [("errors.errorType", Rows.laid_errors_errorType)] w) ∧ sizedMet enc Tryd.prog Tryd.f5 (OpenSpec.ofChange Rows.memberPlaysSpec) false w args)
      (Rows.memberPlaysSpec.post enc Tryd.prog Tryd.f5 false true false false) := by
  refine returnsInHanded_of_change_and (C := Tryd.checked) (X := fun w _ => laidMetH Tryd.prog [("errors.errorType", Rows.laid_errors_errorType)] w) (fun _ _ _ hh h => h.of_heap hh) ownMemberPlays started (by kernel_rfl) Tryd.func5
    (ChangeSpec.witness_at (enc := enc) (C := Tryd.checked) (os := os) (X := fun w _ => laidMetH Tryd.prog [("errors.errorType", Rows.laid_errors_errorType)] w) false (laidWorld os) #[.slice none 0 0, .slice none 0 0, .int .i64 0] 8 rfl (by kernel_rfl) (by kernel_rfl) (by kernel_rfl) (by kernel_rfl) (by kernel_rfl) (laidWorld_met os _)) ?_
  intro W base args ds gs before hval0 hW _ _ hL _
  have hval : ∀ (j : Nat) t v, Tryd.f5.params[j]? = some t → args[j]? = some v → Value.okWide Tryd.prog W .any base t v := hval0
  have hW' := hW
  obtain ⟨p, q, hA0, hV0, rfl, hfz, hnd⟩ := hW
  have hV : DataW.TrodVars enc Tryd.prog W (fun _ => true) [] gs q := hV0
  have hE := cellAt_of (handleMemberPlays hL)
  have hA : DataW.TrodAll enc Tryd.prog W 0 (fun _ => true) true Tryd.f5.params.toList args.toList ds p := hA0
  rw [Tryd.params5] at hA hval
  obtain ⟨v0, vs0, d0, ds0, p0, q0, hargs, rfl, rfl, h0, r0⟩ := trodAll_cons hA
  obtain ⟨v1, vs1, d1, ds1, p1, q1, rfl, rfl, rfl, h1, r1⟩ := trodAll_cons r0
  obtain ⟨v2, vs2, d2, ds2, p2, q2, rfl, rfl, rfl, h2, r2⟩ := trodAll_cons r1
  obtain ⟨rfl, rfl, rfl⟩ := trodAll_nil r2
  obtain rfl : args = #[v0, v1, v2] := by cases args; simp_all
  obtain ⟨rfl, rfl⟩ : gs = [] ∧ q = [] := by
    cases gs with
    | nil => exact ⟨rfl, hV⟩
    | cons g r => exact absurd hV (by intro h; cases h)
  have k0 := h0
  obtain ⟨a0, len0, cap0, rw0, rfl, hr0, hc0, hm0, ho0, R0⟩ := open_row (n := 4) (l := [.int .i64]) Tryd.underlying22 (by kernel_rfl) (by kernel_rfl) (hval 0 22 v0 rfl rfl) h0
  obtain ⟨l0, hl0, hn0, w0⟩ := rows_ints ho0
  rw [hl0] at R0
  rw [hr0] at hn0
  have k1 := h1
  obtain ⟨a1, len1, cap1, rw1, rfl, hr1, hc1, hm1, ho1, R1⟩ := open_row (n := 8) (l := [.int .i64, .int .i64, .int .i64]) Tryd.underlying47 (by kernel_rfl) (by kernel_rfl) (hval 1 47 v1 rfl rfl) h1
  obtain ⟨l1, hl1, hn1, w1⟩ := rows_enc (fun x hx => op3_of (ho1 x hx))
  rw [hl1] at R1
  rw [hr1] at hn1
  have k2 := h2
  obtain ⟨a2, rfl, _, _, w2⟩ := open_int Tryd.underlying3 (hval 2 3 v2 rfl rfl) h2
  clear hA0 hval0
  refine ((plays_ro a0 a1 len0 cap0 len1 cap1 l0 l1 a2).calls W ⟨hE, R0, R1⟩).mono fun e W' ⟨he, ext⟩ => ?_
  subst he
  exact ⟨_, rfl, _, _, _, [], _, [], hW', trodAll_mk1 (shut_bool Tryd.underlying4 _), (trodAll_cons_mk (GL.Ext.trod laidOutMemberPlays (by kernel_rfl) (of_decide_eq_true (by kernel_rfl)) k0 ext) (trodAll_cons_mk (GL.Ext.trod laidOutMemberPlays (by kernel_rfl) (of_decide_eq_true (by kernel_rfl)) k1 ext) (trodAll_cons_mk (GL.Ext.trod laidOutMemberPlays (by kernel_rfl) (of_decide_eq_true (by kernel_rfl)) k2 ext) trodAll_mk0))), rfl, ext.keptBut _, fun h => by cases h⟩
theorem overMemberPlays : Rows.memberPlaysRow.holds Tryd.pinned (OpenSpec.ofChange Rows.memberPlaysSpec) :=
  OpenClaim.holds_of_wide 5 Tryd.f5 rfl rfl rfl rfl rfl rfl rfl ⟨rfl, rfl, rfl, rfl, rfl⟩ rfl rfl rfl rfl rfl (by kernel_rfl) Tryd.func5 (by kernel_rfl)
    (of_decide_eq_true (by kernel_rfl)) (by unfold Func.isWrapper; first | (rw [if_pos (by decide +kernel)]; kernel_rfl) | (rw [if_neg (by decide +kernel)]; exact ⟨rfl, rfl⟩))
    (fun os started H enc _ => liftedMemberPlays os started H enc)
theorem memberPlays_holds : Rows.MemberPlaysCardSaid :=
  Claim7.holds_tied_plain_at .later [] [.handle] true (true, "e084122bf2cf5272e768f4b925436023dd162b65986d845f0bf97ddaef5d5f94") true
    overMemberPlays (fun _ h => by cases h) (by kernel_rfl) (fun _ h => by cases h) memberPlays_row_tie rfl ⟨rfl, rfl⟩ (by kernel_rfl) rfl
    (fun f fn hf hfn => by
      obtain rfl : f = 5 := Option.some.inj ((show Tryd.prog.funcNamed Rows.memberPlaysRow.func = some 5 by kernel_rfl).symm.trans hf) |>.symm
      obtain rfl : fn = Tryd.f5 := (Option.some.inj (Tryd.func5.symm.trans hfn)).symm
      exact ⟨by kernel_rfl, fun j t ht => by
        rw [Tryd.params5] at ht
        match j, ht with
        | 0, ht => obtain rfl : 22 = t := by simpa using ht
                   exact (show Tryd.prog.wantsStandIn 22 = false by kernel_rfl)
        | 1, ht => obtain rfl : 47 = t := by simpa using ht
                   exact (show Tryd.prog.wantsStandIn 47 = false by kernel_rfl)
        | 2, ht => obtain rfl : 3 = t := by simpa using ht
                   exact (show Tryd.prog.wantsStandIn 3 = false by kernel_rfl)
        | (k + 3), ht => simp at ht⟩)
    (by kernel_rfl)
end Go.Proofs.YtkoakmaihcheaabDoor
