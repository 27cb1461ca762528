/-
  The law MarksPlay holds: whatever the input, the Go function returns true, and each argument reads as it did. Conditions: none beyond the statement's own.
-/
import Derived.Test.YtacgheafbkfciaaDoorZMK4
import Derived.Test.YtacgheafbkfciaaDoorZMK8
import Derived.Test.YtacgheafbkfciaaDoorZMK10
import Derived.Test.YtacgheafbkfciaaDoorRows
import Derived.Test.YtacgheafbkfciaaDoorTie
import Derived.Test.YtacgheafbkfciaaDoorCards
import Derived.Test.YtacgheafbkfciaaDoorZMK3
import Derived.ChangeSame
import Derived.ChangeVars
import Derived.JoinedOf
import Derived.RowKit
import Derived.RowKitTokens
import Derived.LaidLaws
import Derived.LaidHandle
import Derived.Stop.Joined
import Derived.SevenTiedAt
/- Contracts of functions of the given program, and plain laws on what they compute: parts of the proofs of laws. -/

namespace Go.Proofs.YtacgheafbkfciaaDoor
open Go Go.GL

/-! a nil table -/
set_option maxRecDepth 10000 in
theorem tof_nil (v : Int) : RO G 19 [.pointer none, .int .i64 v] (fun _ => True) (.map none) := by
  refine RO.enter Tryd.func19 rfl (by decide) rfl Tryd.ntmps19 rfl (fun A hu hA => ?_) (fun _ _ _ h => h)
  repeat (first | refine GO ?_ | refine NW fun _ => ?_)
  exact ret1 rfl ⟨rfl, MM⟩
set_option maxRecDepth 10000 in
theorem mput_nil (v m : Int) : RT G 8 [.pointer none, .int .i64 v, .int .i64 m] (fun _ => True) (IsEr (some ([(marksT, v)], 5))) := by
  refine RT.enter Tryd.func8 rfl (by decide) rfl Tryd.ntmps8 rfl (fun A hu hA => ?_)
  repeat (first | refine GD ?_ | refine NW fun _ => ?_)
  refine WL.step rfl (OP.call (pre := []) rfl rfl (wrap_ok marksT v 5 (by decide)) PS rfl rfl ?_)
  intro x M hF
  obtain ⟨M', h1, h2⟩ := hF.isEr
  repeat (first | refine GD ?_ | refine NW fun _ => ?_)
  exact ret1 rfl ⟨M', h1, Imp.app h2 _⟩
set_option maxRecDepth 10000 in
theorem mforget_nil (v u : Int) : RO G 6 [.pointer none, .int .i64 v, .int .i64 u] (fun _ => True) (.tuple #[]) := by
  refine RO.enter Tryd.func6 rfl (by decide) rfl Tryd.ntmps6 rfl (fun A hu hA => ?_) (fun _ _ _ h => h)
  repeat (first | refine GD ?_ | refine NW fun _ => ?_)
  refine WL.step rfl (OP.callRO rfl rfl (tof_nil v) (fun _ _ => trivial) rfl rfl ?_)
  refine WL.step rfl (OP.rangeNil rfl rfl rfl rfl rfl rfl (fun it => ?_))
  repeat (first | refine GD ?_ | refine NW fun _ => ?_)
  refine WC.loop (σ := Unit) (fun _ => True)
    (fun _ => [(10, .val (.pointer (some ⟨it, 0, none⟩)))])
    (fun _ => [objA it (.mapIter none 0 #[] 0), A]) (fun _ => 0) () trivial ⟨rfl, trivial⟩ II ?_
  rintro ⟨⟩ _
  repeat (first | refine GD ?_ | refine NW fun _ => ?_)
  refine WL.step rfl (OP.nextNil rfl rfl (Ent.mem (A := objA it (.mapIter none 0 #[] 0)) MM (up_objA _ _) (fun _ a => a)) rfl rfl ?_)
  repeat (first | refine GD ?_ | refine NW fun _ => ?_)
  exact blockK.hit rfl (ret0n ⟨rfl, MM⟩)
set_option maxRecDepth 10000 in
theorem mof_nil (v : Int) : RT G 9 [.pointer none, .int .i64 v] (fun _ => True) (fun x E => ∃ a cap, x = .slice a 0 cap ∧ E = [ownS a 0 cap 3 1 []]) := by
  refine RT.enter Tryd.func9 rfl (by decide) rfl Tryd.ntmps9 rfl (fun A hu hA => ?_)
  repeat (first | refine GD ?_ | refine NW fun _ => ?_)
  refine WL.step rfl (OP.callRO rfl rfl (tof_nil v) (fun _ _ => trivial) rfl rfl ?_)
  refine WL.step rfl (OP.callRT rfl rfl (keys_rt _) (fun _ _ => trivial) rfl rfl ?_)
  rintro _ _ ⟨b, rfl, rfl⟩
  refine WL.step rfl (OP.callRT rfl rfl (sortedK_rt b none (fun _ => false) (fun k h => nomatch h) (fun es clock hm => Nat.le_trans (MapEs.few (l := []) hm (fun k h => nomatch h)) (Nat.zero_le _))) (Ent.and (Ent.whole (T := 52) MM) (fun _ _ _ => rfl)) rfl rfl ?_)
  rintro _ _ ⟨a, cap, l, hl, rfl, rfl⟩
  obtain rfl : l = [] := List.eq_nil_iff_forall_not_mem.2 fun x hx => nomatch (hl.2 x).1 hx
  repeat (first | refine GD ?_ | refine NW fun _ => ?_)
  exact ret1 rfl ⟨_, ⟨a, cap, rfl, rfl⟩, II⟩
set_option maxHeartbeats 1000000 in
set_option maxRecDepth 10000 in
theorem mlacks_nil (mark : Int) (a : Option Addr) (n c : Nat) (vols : List Int) (hn : n = vols.length) (hs : n < 100000) :
    RT G 12 [.pointer none, .int .i64 mark, .slice a n c] (readI a n vols) (IntsPost vols) := by
  refine RT.enter Tryd.func12 rfl (by decide) rfl Tryd.ntmps12 rfl (fun A hu hA => ?_)
  have hV : ∀ {L}, A ∈ L → Ent L (readS a n 1 (vols.map iV)) := fun m => Ent.mem m hu hA
  repeat (first | refine GD ?_ | refine NW fun _ => ?_)
  refine WC.imp (Imp.nilS 3 1) ?_
  refine WC.loop (σ := Nat × Option Addr × Nat) (fun s => s.1 ≤ n)
    (fun s => [(0, .val (.pointer none)), (1, .val (.int .i64 mark)), (7, .val (.slice s.2.1 s.1 s.2.2)), (10, .val (.slice a n c)), (11, .val (.int .i64 n)), (12, .val (.int .i64 s.1))])
    (fun s => [ownS s.2.1 s.1 s.2.2 3 1 ((vols.take s.1).map iV), A]) (fun s => n - s.1) (0, none, 0) (Nat.zero_le _) ⟨rfl, rfl, rfl, rfl, rfl, rfl, trivial⟩ (Imp.refl _) ?_
  rintro ⟨k, a7, cap⟩ hk
  dsimp only at hk ⊢
  by_cases hlt : k < n
  rotate_left
  · have he : k = vols.length := by omega
    subst he
    rw [List.take_length]
    repeat (first | refine GD ?_ | refine NW fun _ => ?_)
    exact ret1 rfl ⟨_, ⟨a7, cap, rfl, rfl⟩, Imp.refl _⟩
  have hlk : k < vols.length := by omega
  have hsn : vols.take (k + 1) = vols.take k ++ [vols[k]] := (List.take_append_getElem hlk).symm
  refine WC.fact (Ent.some (hV MM) (by omega)) ?_
  rintro ⟨b, off, rfl⟩
  have hel : ∀ {L}, A ∈ L → Ent L (cellAt b (off + k * 1) (iV vols[k])) := fun m => Ent.elem (hV m) rfl (int_get hlk)
  generalize vols[k] = v at *
  repeat (first | refine GD ?_ | refine NW fun _ => ?_)
  refine WL.step rfl (OP.load1 (v := .int .i64 v) rfl rfl rfl rfl (hel MM) rfl rfl ?_)
  repeat (first | refine GD ?_ | refine NW fun _ => ?_)
  refine WL.step rfl (OP.callRO rfl rfl (tof_nil v) (fun _ _ => trivial) rfl rfl ?_)
  repeat (first | refine GD ?_ | refine NW fun _ => ?_)
  refine WL.step rfl (OP.lookupNil (z := .bool false) rfl rfl rfl rfl rfl rfl rfl rfl rfl rfl rfl ?_)
  repeat (first | refine GD ?_ | refine NW fun _ => ?_)
  refine WL.step rfl (OP.append (ds := [iV v]) rfl rfl rfl rfl rfl rfl rfl rfl rfl P1 (Ent.own MM) rfl (by omega) (by omega) rfl rfl (fun a' cap' => ?_))
  repeat (first | refine GD ?_ | refine NW fun _ => ?_)
  exact ⟨(k + 1, a', cap'), by dsimp only; omega, by dsimp only; omega, ⟨rfl, rfl, rfl, rfl, rfl, rfl, trivial⟩, by dsimp only; rw [hsn, List.map_append]; exact II⟩
set_option maxHeartbeats 1000000 in
set_option maxRecDepth 10000 in
theorem mnewest_nil (a : Option Addr) (n c : Nat) (vols : List Int) (hn : n = vols.length) (hs : n < 100000) :
    RO G 10 [.pointer none, .slice a n c] (readI a n vols) (.int .i64 0) := by
  refine RO.enter Tryd.func10 rfl (by decide) rfl Tryd.ntmps10 rfl (fun A hu hA => ?_) (up_readS _ _ _ _)
  have hV : ∀ {L}, A ∈ L → Ent L (readS a n 1 (vols.map iV)) := fun m => Ent.mem m hu hA
  repeat (first | refine GD ?_ | refine NW fun _ => ?_)
  refine WC.loop (σ := Nat) (fun i => i ≤ n ∧ i ≤ 1)
    (fun i => [(0, .val (.pointer none)), (1, .val (.slice a n c)), (5, .val (.int .i64 0)), (9, .val (.slice a n c)), (10, .val (.int .i64 n)), (11, .val (.int .i64 i))])
    (fun _ => [A]) (fun i => 1 - i) 0 ⟨Nat.zero_le _, Nat.zero_le _⟩ ⟨rfl, rfl, rfl, rfl, rfl, rfl, trivial⟩ (Imp.refl _) ?_
  rintro i ⟨hi1, hi2⟩
  by_cases hlt : i < n
  rotate_left
  · repeat (first | refine GD ?_ | refine NW fun _ => ?_)
    exact ret1 rfl ⟨rfl, MM⟩
  have hlk : i < vols.length := by omega
  refine WC.fact (Ent.some (hV MM) (by omega)) ?_
  rintro ⟨b, off, rfl⟩
  have hel : ∀ {L}, A ∈ L → Ent L (cellAt b (off + i * 1) (iV vols[i])) := fun m => Ent.elem (hV m) rfl (int_get hlk)
  generalize vols[i] = v at *
  by_cases h1 : i = 1
  · subst h1
    repeat (first | refine GD ?_ | refine NW fun _ => ?_)
    refine WL.step rfl (OP.load1 (v := .int .i64 v) rfl rfl rfl rfl (hel MM) rfl rfl ?_)
    repeat (first | refine GD ?_ | refine NW fun _ => ?_)
    exact ret1 rfl ⟨rfl, MM⟩
  obtain rfl : i = 0 := by omega
  repeat (first | refine GD ?_ | refine NW fun _ => ?_)
  refine WL.step rfl (OP.load1 (v := .int .i64 v) rfl rfl rfl rfl (hel MM) rfl rfl ?_)
  repeat (first | refine GD ?_ | refine NW fun _ => ?_)
  refine WL.step rfl (OP.callRO rfl rfl (tof_nil v) (fun _ _ => trivial) rfl rfl ?_)
  refine WL.step rfl (OP.rangeNil rfl rfl rfl rfl rfl rfl (fun it => ?_))
  repeat (first | refine GD ?_ | refine NW fun _ => ?_)
  refine WC.loop (σ := Unit) (fun _ => True)
    (fun _ => [(0, .val (.pointer none)), (1, .val (.slice (some ⟨b, off, none⟩) n c)), (5, .val (.int .i64 0)), (9, .val (.slice (some ⟨b, off, none⟩) n c)), (10, .val (.int .i64 n)), (11, .val (.int .i64 0)), (21, .val (.pointer (some ⟨it, 0, none⟩)))])
    (fun _ => [objA it (.mapIter none 0 #[] 0), A]) (fun _ => 0) () trivial ⟨rfl, rfl, rfl, rfl, rfl, rfl, rfl, trivial⟩ II ?_
  rintro ⟨⟩ _
  repeat (first | refine GD ?_ | refine NW fun _ => ?_)
  refine WL.step rfl (OP.nextNil rfl rfl (Ent.mem (A := objA it (.mapIter none 0 #[] 0)) MM (up_objA _ _) (fun _ a => a)) rfl rfl ?_)
  repeat (first | refine GD ?_ | refine NW fun _ => ?_)
  exact ⟨1, ⟨by omega, Nat.le_refl _⟩, Nat.lt_succ_self 0, ⟨rfl, rfl, rfl, rfl, rfl, rfl, trivial⟩, II⟩
theorem one_len {ch : Chain} {x : ByteArray × Int} (h : ch.map Prod.snd = [x]) : ch.length < 1000 := by
  have := congrArg List.length h
  rw [List.length_map] at this
  rw [this]
  exact Nat.lt_of_sub_eq_succ rfl
set_option maxHeartbeats 4000000 in
set_option maxRecDepth 10000 in
theorem mnil_ro (v m : Int) (a : Option Addr) (n c : Nat) (vols : List Int) (hn : n = vols.length) : RO G 3 [.int .i64 v, .int .i64 m, .slice a n c] (fun h => ErrT h ∧ readI a n vols h) (.bool true) := by
  refine RO.enter Tryd.func3 rfl (by decide) rfl Tryd.ntmps3 rfl (fun A hu hA => ?_) (up_and up_ErrT (up_readS _ _ _ _))
  have hT : ∀ {L}, A ∈ L → Ent L ErrT := fun m => Ent.mem m hu fun k x => (hA k x).1
  have hV : ∀ {L}, A ∈ L → Ent L (readI a n vols) := fun m => Ent.mem m hu fun k x => (hA k x).2
  have hce : ∀ {L} {ch : Chain}, chainR ch 5 ∈ L → A ∈ L → Ent L (chainE ch 5) := fun m1 m2 => Ent.and (hT m2) (Ent.mem m1 (up_chainR _ _) (fun _ x => x))
  repeat (first | refine GD ?_ | refine NW fun _ => ?_)
  refine WL.step rfl (OP.callRO rfl rfl mawake_ro (fun _ _ => trivial) rfl rfl ?_)
  by_cases h20 : 20 < n
  · repeat (first | refine GD ?_ | refine NW fun _ => ?_)
    refine WL.step rfl (OP.callRO rfl rfl mawake_ro (fun _ _ => trivial) rfl rfl ?_)
    repeat (first | refine GD ?_ | refine NW fun _ => ?_)
    exact ret1 rfl ⟨rfl, MM⟩
  repeat (first | refine GD ?_ | refine NW fun _ => ?_)
  refine WL.step rfl (OP.callRO rfl rfl (mforget_nil v m) (fun _ _ => trivial) rfl rfl ?_)
  repeat (first | refine GD ?_ | refine NW fun _ => ?_)
  refine WL.step rfl (OP.callRT rfl rfl (mput_nil v m) (fun _ _ => trivial) rfl rfl ?_)
  rintro _ _ ⟨ch, hch, rfl, rfl⟩
  refine WL.step rfl (OP.callRO rfl rfl (codeC ch 5) (hce MM MM) rfl rfl ?_)
  repeat (first | refine GD ?_ | refine NW fun _ => ?_)
  refine WL.guardT rfl rfl rfl rfl (OP.callRT rfl rfl (mof_nil v) (fun _ _ => trivial) rfl rfl ?_)
  rintro _ _ ⟨aO, cO, rfl, rfl⟩
  repeat (first | refine GD ?_ | refine NW fun _ => ?_)
  refine WL.guardT rfl rfl rfl rfl (OP.callRO rfl rfl (mnewest_nil a n c vols hn (by omega)) (hV MM) rfl rfl ?_)
  repeat (first | refine GD ?_ | refine NW fun _ => ?_)
  refine WL.guardT rfl rfl rfl rfl (OP.callRT rfl rfl (mlacks_nil m a n c vols hn (by omega)) (hV MM) rfl rfl ?_)
  rintro _ _ ⟨aL, cL, rfl, rfl⟩
  repeat (first | refine GD ?_ | refine NW fun _ => ?_)
  refine WL.guardT rfl rfl rfl rfl (OP.callRO rfl rfl (msame_ro aL a vols.length cL n c vols vols rfl hn (by omega)) (Ent.and (Ent.own (T := 3) (cap := cL) MM) (hV MM)) rfl rfl ?_)
  rw [decide_eq_true (rfl : vols = vols)]
  repeat (first | refine GD ?_ | refine NW fun _ => ?_)
  exact ret1 rfl ⟨rfl, MM⟩
end Go.Proofs.YtacgheafbkfciaaDoor
/- Contracts of functions of the given program, and plain laws on what they compute: parts of the proofs of laws. -/

namespace Go.Proofs.YtacgheafbkfciaaDoor
open Go Go.GL

theorem putE_code {S : Int → Int → Bool} {v m c : Int} (Lf : Int → List Int) (h : putE S v m = .error c) : (rputE Lf v m).1 = c ∧ (c = 5 ∨ c = 1) := by
  unfold putE at h
  unfold rputE
  split at h
  · rename_i hv; cases h; rw [if_pos hv]; exact ⟨rfl, .inl rfl⟩
  · rename_i hv
    rw [if_neg hv]
    split at h
    · rename_i hm; cases h; rw [if_pos hm]; exact ⟨rfl, .inr rfl⟩
    · cases h
theorem putE_zero {S S' : Int → Int → Bool} {v m : Int} (Lf : Int → List Int) (h : putE S v m = .ok S') : (rputE Lf v m).1 = 0 := by
  unfold putE at h
  unfold rputE
  split at h
  · cases h
  · rename_i hv
    rw [if_neg hv]
    split at h
    · cases h
    · rename_i hm
      rw [if_neg hm]
      split <;> rfl
theorem Few.forget {S : Int → Int → Bool} {l : List Int} (F : Few S l) (v u : Int) : Few (forgetS S v u) l := F.sub fun a b h => by
  unfold forgetS at h
  split at h
  · rename_i e; subst e; rw [Bool.and_eq_true] at h; exact h.1
  · exact h
theorem sorted_uniq : ∀ {a b : List Int}, a.Pairwise (· < ·) → b.Pairwise (· < ·) → (∀ x, x ∈ a ↔ x ∈ b) → a = b
  | [], b, _, _, h => by
    cases b with
    | nil => rfl
    | cons y b => exact absurd ((h y).2 List.mem_cons_self) (by simp)
  | x :: a, b, ha, hb, h => by
    cases b with
    | nil => exact absurd ((h x).1 List.mem_cons_self) (by simp)
    | cons y b =>
      have ha1 : ∀ {z}, z ∈ a → x < z := fun h => List.rel_of_pairwise_cons ha h
      have hb1 : ∀ {z}, z ∈ b → y < z := fun h => List.rel_of_pairwise_cons hb h
      have hxy : x = y := by
        rcases List.mem_cons.1 ((h x).1 List.mem_cons_self) with e | e
        · exact e
        · rcases List.mem_cons.1 ((h y).2 List.mem_cons_self) with e' | e'
          · exact e'.symm
          · have h1 := hb1 e
            have h2 := ha1 e'
            omega
      subst hxy
      rw [sorted_uniq (List.Pairwise.of_cons ha) (List.Pairwise.of_cons hb) fun z => ⟨fun hz => ?_, fun hz => ?_⟩]
      · rcases List.mem_cons.1 ((h z).1 (List.mem_cons_of_mem _ hz)) with e | e
        · have := ha1 hz; omega
        · exact e
      · rcases List.mem_cons.1 ((h z).2 (List.mem_cons_of_mem _ hz)) with e | e
        · have := hb1 hz; omega
        · exact e
theorem sorted_few {S : Int → Int → Bool} {fl : List Int} (hF : Few S fl) {v : Int} {o : List Int} (ho : SortedOf (rowS S v) o) : o.length ≤ fl.length := by
  refine length_le_of_mem (b := fl) (ho.1.imp fun h e => by omega) (fun k hk => ?_)
  have := (ho.2 k).1 hk
  unfold rowS at this
  split at this
  · exact hF.mem v k this
  · cases this
set_option maxHeartbeats 32000000 in
set_option maxRecDepth 10000 in
theorem mplay_ro (a a1 : Option Addr) (n c n1 c1 : Nat) (l : List MOp) (vols : List Int) (mark : Int) (hn : n = l.length) (hn1 : n1 = vols.length) (hw : ∀ o ∈ l, (Lit.int .i64 o.2.2).wf = true) :
    RO G 4 [.slice a n c, .slice a1 n1 c1, .int .i64 mark] (fun h => ErrT h ∧ readS a n 3 (l.flatMap encM) h ∧ readI a1 n1 vols h) (.bool true) := by
  refine RO.enter Tryd.func4 rfl (by decide) rfl Tryd.ntmps4 rfl (fun A hu hA => ?_) (up_and up_ErrT (up_and (up_readS _ _ _ _) (up_readS _ _ _ _)))
  have hT : ∀ {L}, A ∈ L → Ent L ErrT := fun m => Ent.mem m hu fun k x => (hA k x).1
  have hE : ∀ {L}, A ∈ L → Ent L (readS a n 3 (l.flatMap encM)) := fun m => Ent.mem m hu fun k x => (hA k x).2.1
  have hE1 : ∀ {L}, A ∈ L → Ent L (readI a1 n1 vols) := fun m => Ent.mem m hu fun k x => (hA k x).2.2
  have hce : ∀ {L} {ch : Chain} {c : Int}, chainR ch c ∈ L → A ∈ L → Ent L (chainE ch c) := fun m1 m2 => Ent.and (hT m2) (Ent.mem m1 (up_chainR _ _) (fun _ x => x))
  repeat (first | refine GD ?_ | refine NW fun _ => ?_)
  refine WL.step rfl (OP.callRO rfl rfl mawake_ro (fun _ _ => trivial) rfl rfl ?_)
  by_cases h200 : 200 < n
  · repeat (first | refine GD ?_ | refine NW fun _ => ?_)
    refine WL.step rfl (OP.callRO rfl rfl mawake_ro (fun _ _ => trivial) rfl rfl ?_)
    repeat (first | refine GD ?_ | refine NW fun _ => ?_)
    exact ret1 rfl ⟨rfl, MM⟩
  by_cases h20 : 20 < n1
  · repeat (first | refine GD ?_ | refine NW fun _ => ?_)
    refine WL.step rfl (OP.callRO rfl rfl mawake_ro (fun _ _ => trivial) rfl rfl ?_)
    repeat (first | refine GD ?_ | refine NW fun _ => ?_)
    exact ret1 rfl ⟨rfl, MM⟩
  repeat (first | refine GD ?_ | refine NW fun _ => ?_)
  rename_i p q
  refine WC.imp (Imp.trans (rtabNil q) (Imp.cons (mtabNil p))) ?_
  refine WC.loop (σ := Nat × (Int → Int → Bool) × (Int → List Int)) (fun s => s.1 ≤ n ∧ RInv s.2.1 s.2.2 ∧ Few s.2.1 (keysM l) ∧ ∀ v, (s.2.2 v).length ≤ s.1)
    (fun s => [(0, .val (.slice a n c)), (1, .val (.slice a1 n1 c1)), (2, .val (.int .i64 mark)), (7, .val (.pointer (some ⟨p, 0, none⟩))), (8, .val (.pointer (some ⟨q, 0, none⟩))), (32, .val (.int .i64 n)), (33, .val (.int .i64 s.1))])
    (fun s => [rtab q s.2.2, mtab p s.2.1, A]) (fun s => n - s.1) (0, noS, noL) ⟨Nat.zero_le _, RInv.none, Few.none _ (by unfold keysM; rw [List.length_map]; omega), fun _ => Nat.le_refl _⟩ ⟨rfl, rfl, rfl, rfl, rfl, rfl, rfl, trivial⟩ (Imp.refl _) ?_
  rintro ⟨k, S, Lf⟩ ⟨hk, I, hF, hl⟩
  dsimp only at hk I hF hl ⊢
  by_cases hlt : k < n
  rotate_left
  · repeat (first | refine GD ?_ | refine NW fun _ => ?_)
    exact ret1 rfl ⟨rfl, MM⟩
  have hkl : (keysM l).length = n := by unfold keysM; rw [List.length_map]; exact hn.symm
  have hlk : k < l.length := by omega
  have hwk := hw l[k] (List.getElem_mem hlk)
  have hmk := keysM_mem hlk
  have hll : ∀ v, (Lf v).length < 100000 := fun v => by have := hl v; omega
  refine WC.fact (Ent.some (hE MM) (by omega)) ?_
  rintro ⟨b, off, rfl⟩
  have her : ∀ {L}, A ∈ L → Ent L (cellsAt b (off + k * 3) (encM l[k])) := fun m => Ent.elA encM_len (hE m) hlk
  generalize l[k] = o at *
  obtain ⟨kd, v, m⟩ := o
  dsimp only at hwk hmk
  repeat (first | refine GD ?_ | refine NW fun _ => ?_)
  refine WL.step rfl (OP.loadA (l := encM (kd, v, m)) rfl rfl rfl rfl (her MM) rfl rfl rfl ?_)
  rw [show encM (kd, v, m) = [.int .i64 kd, .int .i64 v, .int .i64 m] from rfl]
  by_cases k1 : kd = 1
  · subst k1
    repeat (first | refine GD ?_ | refine NW fun _ => ?_)
    rename_i lb
    refine WL.step rfl (OP.call (pre := [mtab p S]) rfl rfl (mput_ok p S v m) PS rfl rfl ?_)
    intro x M hM
    have I2 := I.put v m
    have hF2 : Few (stepS S v m) (keysM l) := hF.step hmk hwk
    have hl2 := rputE_len (K := k) hl v m
    have hrp := rput_ok q Lf v m hll
    unfold MPut at hM
    cases hp : putE S v m with
    | ok S' =>
      rw [hp] at hM
      obtain ⟨rfl, rfl⟩ := hM
      rw [putE_zero Lf hp] at hrp
      rw [show stepS S v m = S' by unfold stepS; rw [hp]] at I2 hF2
      generalize (rputE Lf v m).2 = L2 at *
      repeat (first | refine GD ?_ | refine NW fun _ => ?_)
      refine WL.step rfl (OP.callRO rfl rfl (first_nil marksT) (fun _ _ => trivial) rfl rfl ?_)
      repeat (first | refine GD ?_ | refine NW fun _ => ?_)
      refine RD 7 24 ([blk lb [.int .i64 1, .int .i64 v, .int .i64 m] 45]) ?_
      refine WP 0 ?_
      refine WP 2 ?_
      refine WP 3 ?_
      refine VV 4 ?_
      refine WP 5 ?_
      refine VV 6 ?_
      refine WH.only 1 rfl rfl (by kernel_rfl) rfl (OP.callRO rfl rfl (code_nil) (fun _ _ => trivial) rfl rfl ⟨fun _ => II, ?_⟩)
      refine WH.only 7 rfl rfl (by kernel_rfl) rfl (OP.call (pre := [rtab q Lf]) rfl rfl hrp PS rfl rfl (fun x M hM => ?_))
      obtain ⟨rfl, rfl⟩ := hM
      refine ⟨(fun h => nomatch h), ?_⟩
      refine WP 8 ?_
      refine WP 9 ?_
      refine WP 10 ?_
      refine WP 11 ?_
      refine WP 12 ?_
      refine WP 13 ?_
      refine WP 14 ?_
      refine WP 15 ?_
      refine WP 16 ?_
      refine WP 17 ?_
      refine WP 18 ?_
      refine WP 19 ?_
      refine VF 20 ?_
      refine WP 21 ?_
      refine WP 22 ?_
      refine WP 23 ?_
      refine DN ?_
      repeat (first | refine GD ?_ | refine NW fun _ => ?_)
      refine WC.imp (M := [rtab q L2, mtab p S', A, blk lb [.int .i64 1, .int .i64 v, .int .i64 m] 45]) II ?_
      refine WC.open (M := [mtab p S', A, blk lb [.int .i64 1, .int .i64 v, .int .i64 m] 45]) (Ls := rtabL q L2) (Imp.refl _) (fun x => ?_)
      refine WC.imp (M := stars (rtabL q L2 x) :: [mtab p S', A, blk lb [.int .i64 1, .int .i64 v, .int .i64 m] 45]) (fun _ s => stars_append.1 s) ?_
      have hll2 : ∀ v, (L2 v).length < 100000 := fun v => by have := hl2 v; omega
      have hrt : ∀ {L}, stars (rtabL q L2 x) ∈ L → Ent L (rtab q L2) := fun m => Ent.mem m (up_stars _) fun _ h => ⟨x, h⟩
      have hrw : ∀ {L} (v : Int), stars (rtabL q L2 x) ∈ L → Ent L (readI (rofA x v) (rowL L2 v).length (rowL L2 v)) := fun v m => rof_read (up_stars _) (fun _ h => h) m v
      repeat (first | refine GD ?_ | refine NW fun _ => ?_)
      refine RD 31 31 ([blk lb [.int .i64 1, .int .i64 v, .int .i64 m] 45]) ?_
      refine WP 0 ?_
      refine WP 1 ?_
      refine VV 2 ?_
      refine WP 4 ?_
      refine WP 5 ?_
      refine VV 6 ?_
      refine WH.only 3 rfl rfl (by kernel_rfl) rfl (OP.callRT rfl rfl (mof_rt p S' v hF2) (Ent.mem (A := mtab p S') MM (up_mtab _ _) fun _ a => a) rfl rfl (fun x3 E3 hE3 => ?_))
      obtain ⟨aO, capO, o, ho, rfl, rfl⟩ := hE3
      have hol := sorted_few hF2 ho
      obtain rfl : o = rowL L2 v := sorted_uniq ho.1 (I2.row v).1 fun z => by rw [ho.2, (I2.row v).2]
      refine ⟨fun _ => II, ?_⟩
      refine WH.only 7 rfl rfl (by kernel_rfl) rfl (OP.callRO rfl rfl (rof_ro q L2 x v) (Ent.at (up_stars _) MM) rfl rfl ⟨fun _ => II, ?_⟩)
      refine WH.only 8 rfl rfl (by kernel_rfl) rfl (OP.callRO rfl rfl (msame_ro aO (rofA x v) (rowL L2 v).length capO (rowL L2 v).length (rofC x v) (rowL L2 v) (rowL L2 v) rfl rfl (by omega)) (Ent.and (Ent.own (T := 3) (cap := capO) MM) (hrw v MM)) rfl rfl ⟨fun _ => II, ?_⟩)
      rw [decide_eq_true (rfl : rowL L2 v = rowL L2 v)]
      refine WP 9 ?_
      refine WP 10 ?_
      refine WP 11 ?_
      refine WP 12 ?_
      refine WP 14 ?_
      refine WP 15 ?_
      refine WH.onlyG (q := true) 13 rfl rfl rfl rfl rfl rfl rfl (by kernel_rfl) rfl (.inl rfl) (fun _ => OP.callRT rfl rfl (mnewest_rt p S' a1 n1 c1 vols hn1 (by omega)) (Ent.and (Ent.mem (A := mtab p S') MM (up_mtab _ _) fun _ a => a) (hE1 MM)) rfl rfl (fun x3 E3 hE3 => ?_)) (fun h => nomatch h)
      obtain ⟨k9, hk9, rfl, rfl⟩ := hE3
      obtain rfl : k9 = newL L2 vols := hk9.uniq (I2.newest vols)
      refine ⟨fun _ => II, ?_⟩
      refine WH.onlyG (q := true) 16 rfl rfl rfl rfl rfl rfl rfl (by kernel_rfl) rfl (.inl rfl) (fun _ => OP.callRO rfl rfl (rnewest_ro q L2 a1 n1 c1 vols hn1 (by omega) hll2) (Ent.and (hrt MM) (hE1 MM)) rfl rfl ⟨fun _ => II, ?_⟩) (fun h => nomatch h)
      refine WP 17 ?_
      rw [decide_eq_true (rfl : newL L2 vols = newL L2 vols)]
      refine WP 18 ?_
      refine WP 19 ?_
      refine WP 20 ?_
      refine WP 21 ?_
      refine WP 22 ?_
      refine WP 24 ?_
      refine WP 25 ?_
      refine WP 26 ?_
      refine WH.onlyG (q := true) 23 rfl rfl rfl rfl rfl rfl rfl (by kernel_rfl) rfl (.inl rfl) (fun _ => OP.callRT rfl rfl (mlacks_rt p S' mark a1 n1 c1 vols hn1 (by omega)) (Ent.and (Ent.mem (A := mtab p S') MM (up_mtab _ _) fun _ a => a) (hE1 MM)) rfl rfl (fun x3 E3 hE3 => ?_)) (fun h => nomatch h)
      obtain ⟨a5, cap5, rfl, rfl⟩ := hE3
      refine ⟨fun _ => II, ?_⟩
      refine WH.onlyG (q := true) 27 rfl rfl rfl rfl rfl rfl rfl (by kernel_rfl) rfl (.inl rfl) (fun _ => OP.callRT rfl rfl (rlacks_rt q L2 mark a1 n1 c1 vols hn1 (by omega) hll2) (Ent.and (hrt MM) (hE1 MM)) rfl rfl (fun x3 E3 hE3 => ?_)) (fun h => nomatch h)
      rw [I2.lacks] at hE3
      obtain ⟨a6, cap6, rfl, rfl⟩ := hE3
      refine ⟨fun _ => II, ?_⟩
      refine WH.onlyG (q := true) 28 rfl rfl rfl rfl rfl rfl rfl (by kernel_rfl) rfl (.inl rfl) (fun _ => OP.callRO rfl rfl (msame_ro a5 a6 (lacksS S' mark vols).length cap5 (lacksS S' mark vols).length cap6 (lacksS S' mark vols) (lacksS S' mark vols) rfl rfl (by have : (lacksS S' mark vols).length ≤ vols.length := List.length_filter_le _ _; omega)) (Ent.and (Ent.own (T := 3) (cap := cap5) MM) (Ent.own (T := 3) (cap := cap6) MM)) rfl rfl ⟨fun _ => II, ?_⟩) (fun h => nomatch h)
      rw [decide_eq_true (rfl : lacksS S' mark vols = lacksS S' mark vols)]
      refine WP 29 ?_
      refine WP 30 ?_
      refine DN ?_
      repeat (first | refine GD ?_ | refine NW fun _ => ?_)
      exact ⟨(k + 1, S', L2), ⟨by dsimp only; omega, I2, hF2, hl2⟩, by dsimp only; omega, ⟨rfl, rfl, rfl, rfl, rfl, rfl, rfl, trivial⟩, Imp.trans (show Imp _ (stars (rtabL q L2 x) :: [mtab p S', A]) from II) (fun h s => stars_head_mono (fun _ hk => ⟨x, hk⟩) s)⟩
    | error ce =>
      rw [hp] at hM
      obtain ⟨E, ⟨ch, hch, rfl, rfl⟩, rfl⟩ := hM
      obtain ⟨hc1, hc2⟩ := putE_code Lf hp
      rw [hc1] at hrp
      rw [show stepS S v m = S by unfold stepS; rw [hp]] at I2 hF2
      generalize (rputE Lf v m).2 = L2 at *
      have hfc := firstC_ro ch ce marksT (one_len hch)
      rw [show firstV (firstC marksT (ch.map Prod.snd)) = .tuple #[.int .i64 v, .bool true] by rw [hch]; rfl] at hfc
      have hcc := codeC ch ce
      cases ch with
      | nil => cases hch
      | cons y ch =>
      dsimp only [valOf] at hfc hcc ⊢
      repeat (first | refine GD ?_ | refine NW fun _ => ?_)
      refine WL.step rfl (OP.callRO rfl rfl hfc (hce MM MM) rfl rfl ?_)
      repeat (first | refine GD ?_ | refine NW fun _ => ?_)
      refine RD 7 24 ([blk lb [.int .i64 1, .int .i64 v, .int .i64 m] 45]) ?_
      refine WP 0 ?_
      refine WP 2 ?_
      refine WP 3 ?_
      refine VV 4 ?_
      refine WP 5 ?_
      refine VV 6 ?_
      refine WH.only 1 rfl rfl (by kernel_rfl) rfl (OP.callRO rfl rfl (hcc) (hce MM MM) rfl rfl ⟨fun _ => II, ?_⟩)
      refine WH.only 7 rfl rfl (by kernel_rfl) rfl (OP.call (pre := [rtab q Lf]) rfl rfl hrp PS rfl rfl (fun x M hM => ?_))
      obtain ⟨rfl, rfl⟩ := hM
      refine ⟨(fun h => nomatch h), ?_⟩
      refine WP 8 ?_
      rw [decide_eq_true (rfl : ce = ce)]
      refine WP 9 ?_
      refine WP 10 ?_
      refine WP 11 ?_
      refine WP 12 ?_
      refine WP 13 ?_
      refine WP 14 ?_
      refine WP 15 ?_
      refine WP 16 ?_
      refine WP 17 ?_
      refine WP 18 ?_
      refine WP 19 ?_
      refine WH.onlyG (q := true) 20 rfl rfl rfl rfl rfl rfl rfl (by kernel_rfl) rfl (.inr rfl) (fun _ => OP.load1 (v := .int .i64 v) rfl rfl rfl rfl (Ent.blk (c := [.int .i64 1, .int .i64 v, .int .i64 m]) (T := 45) MM rfl) rfl rfl ⟨(fun h => nomatch h), ?_⟩) (fun h => nomatch h)
      refine WP 21 ?_
      rw [decide_eq_true (rfl : v = v)]
      refine WP 22 ?_
      refine WP 23 ?_
      refine DN ?_
      repeat (first | refine GD ?_ | refine NW fun _ => ?_)
      refine WC.imp (M := [rtab q L2, mtab p S, A, blk lb [.int .i64 1, .int .i64 v, .int .i64 m] 45]) II ?_
      refine WC.open (M := [mtab p S, A, blk lb [.int .i64 1, .int .i64 v, .int .i64 m] 45]) (Ls := rtabL q L2) (Imp.refl _) (fun x => ?_)
      refine WC.imp (M := stars (rtabL q L2 x) :: [mtab p S, A, blk lb [.int .i64 1, .int .i64 v, .int .i64 m] 45]) (fun _ s => stars_append.1 s) ?_
      have hll2 : ∀ v, (L2 v).length < 100000 := fun v => by have := hl2 v; omega
      have hrt : ∀ {L}, stars (rtabL q L2 x) ∈ L → Ent L (rtab q L2) := fun m => Ent.mem m (up_stars _) fun _ h => ⟨x, h⟩
      have hrw : ∀ {L} (v : Int), stars (rtabL q L2 x) ∈ L → Ent L (readI (rofA x v) (rowL L2 v).length (rowL L2 v)) := fun v m => rof_read (up_stars _) (fun _ h => h) m v
      repeat (first | refine GD ?_ | refine NW fun _ => ?_)
      refine RD 31 31 ([blk lb [.int .i64 1, .int .i64 v, .int .i64 m] 45]) ?_
      refine WP 0 ?_
      refine WP 1 ?_
      refine VV 2 ?_
      refine WP 4 ?_
      refine WP 5 ?_
      refine VV 6 ?_
      refine WH.only 3 rfl rfl (by kernel_rfl) rfl (OP.callRT rfl rfl (mof_rt p S v hF2) (Ent.mem (A := mtab p S) MM (up_mtab _ _) fun _ a => a) rfl rfl (fun x3 E3 hE3 => ?_))
      obtain ⟨aO, capO, o, ho, rfl, rfl⟩ := hE3
      have hol := sorted_few hF2 ho
      obtain rfl : o = rowL L2 v := sorted_uniq ho.1 (I2.row v).1 fun z => by rw [ho.2, (I2.row v).2]
      refine ⟨fun _ => II, ?_⟩
      refine WH.only 7 rfl rfl (by kernel_rfl) rfl (OP.callRO rfl rfl (rof_ro q L2 x v) (Ent.at (up_stars _) MM) rfl rfl ⟨fun _ => II, ?_⟩)
      refine WH.only 8 rfl rfl (by kernel_rfl) rfl (OP.callRO rfl rfl (msame_ro aO (rofA x v) (rowL L2 v).length capO (rowL L2 v).length (rofC x v) (rowL L2 v) (rowL L2 v) rfl rfl (by omega)) (Ent.and (Ent.own (T := 3) (cap := capO) MM) (hrw v MM)) rfl rfl ⟨fun _ => II, ?_⟩)
      rw [decide_eq_true (rfl : rowL L2 v = rowL L2 v)]
      refine WP 9 ?_
      refine WP 10 ?_
      refine WP 11 ?_
      refine WP 12 ?_
      refine WP 14 ?_
      refine WP 15 ?_
      refine WH.onlyG (q := true) 13 rfl rfl rfl rfl rfl rfl rfl (by kernel_rfl) rfl (.inl rfl) (fun _ => OP.callRT rfl rfl (mnewest_rt p S a1 n1 c1 vols hn1 (by omega)) (Ent.and (Ent.mem (A := mtab p S) MM (up_mtab _ _) fun _ a => a) (hE1 MM)) rfl rfl (fun x3 E3 hE3 => ?_)) (fun h => nomatch h)
      obtain ⟨k9, hk9, rfl, rfl⟩ := hE3
      obtain rfl : k9 = newL L2 vols := hk9.uniq (I2.newest vols)
      refine ⟨fun _ => II, ?_⟩
      refine WH.onlyG (q := true) 16 rfl rfl rfl rfl rfl rfl rfl (by kernel_rfl) rfl (.inl rfl) (fun _ => OP.callRO rfl rfl (rnewest_ro q L2 a1 n1 c1 vols hn1 (by omega) hll2) (Ent.and (hrt MM) (hE1 MM)) rfl rfl ⟨fun _ => II, ?_⟩) (fun h => nomatch h)
      refine WP 17 ?_
      rw [decide_eq_true (rfl : newL L2 vols = newL L2 vols)]
      refine WP 18 ?_
      refine WP 19 ?_
      refine WP 20 ?_
      refine WP 21 ?_
      refine WP 22 ?_
      refine WP 24 ?_
      refine WP 25 ?_
      refine WP 26 ?_
      refine WH.onlyG (q := true) 23 rfl rfl rfl rfl rfl rfl rfl (by kernel_rfl) rfl (.inl rfl) (fun _ => OP.callRT rfl rfl (mlacks_rt p S mark a1 n1 c1 vols hn1 (by omega)) (Ent.and (Ent.mem (A := mtab p S) MM (up_mtab _ _) fun _ a => a) (hE1 MM)) rfl rfl (fun x3 E3 hE3 => ?_)) (fun h => nomatch h)
      obtain ⟨a5, cap5, rfl, rfl⟩ := hE3
      refine ⟨fun _ => II, ?_⟩
      refine WH.onlyG (q := true) 27 rfl rfl rfl rfl rfl rfl rfl (by kernel_rfl) rfl (.inl rfl) (fun _ => OP.callRT rfl rfl (rlacks_rt q L2 mark a1 n1 c1 vols hn1 (by omega) hll2) (Ent.and (hrt MM) (hE1 MM)) rfl rfl (fun x3 E3 hE3 => ?_)) (fun h => nomatch h)
      rw [I2.lacks] at hE3
      obtain ⟨a6, cap6, rfl, rfl⟩ := hE3
      refine ⟨fun _ => II, ?_⟩
      refine WH.onlyG (q := true) 28 rfl rfl rfl rfl rfl rfl rfl (by kernel_rfl) rfl (.inl rfl) (fun _ => OP.callRO rfl rfl (msame_ro a5 a6 (lacksS S mark vols).length cap5 (lacksS S mark vols).length cap6 (lacksS S mark vols) (lacksS S mark vols) rfl rfl (by have : (lacksS S mark vols).length ≤ vols.length := List.length_filter_le _ _; omega)) (Ent.and (Ent.own (T := 3) (cap := cap5) MM) (Ent.own (T := 3) (cap := cap6) MM)) rfl rfl ⟨fun _ => II, ?_⟩) (fun h => nomatch h)
      rw [decide_eq_true (rfl : lacksS S mark vols = lacksS S mark vols)]
      refine WP 29 ?_
      refine WP 30 ?_
      refine DN ?_
      repeat (first | refine GD ?_ | refine NW fun _ => ?_)
      exact ⟨(k + 1, S, L2), ⟨by dsimp only; omega, I2, hF2, hl2⟩, by dsimp only; omega, ⟨rfl, rfl, rfl, rfl, rfl, rfl, rfl, trivial⟩, Imp.trans (show Imp _ (stars (rtabL q L2 x) :: [mtab p S, A]) from II) (fun h s => stars_head_mono (fun _ hk => ⟨x, hk⟩) s)⟩
  by_cases k2 : kd = 2
  · subst k2
    repeat (first | refine GD ?_ | refine NW fun _ => ?_)
    rename_i lb
    refine WL.step rfl (OP.call (pre := [mtab p S]) rfl rfl (mforget_ok p S v m) PS rfl rfl ?_)
    rintro _ _ ⟨rfl, rfl⟩
    have I2 := I.forget v m
    have hF2 := hF.forget v m
    have hl2 : ∀ a, (rforgetL Lf v m a).length ≤ k + 1 := fun a => Nat.le_succ_of_le (rforgetL_len (K := k) hl v m a)
    repeat (first | refine GD ?_ | refine NW fun _ => ?_)
    refine WL.step rfl (OP.call (pre := [rtab q Lf]) rfl rfl (rforget_ok q Lf v m hll) PS rfl rfl ?_)
    rintro _ _ ⟨rfl, rfl⟩
    generalize rforgetL Lf v m = L2 at *
    generalize forgetS S v m = S2 at *
    repeat (first | refine GD ?_ | refine NW fun _ => ?_)
    refine WC.imp (M := [rtab q L2, mtab p S2, A, blk lb [.int .i64 2, .int .i64 v, .int .i64 m] 45]) II ?_
    refine WC.open (M := [mtab p S2, A, blk lb [.int .i64 2, .int .i64 v, .int .i64 m] 45]) (Ls := rtabL q L2) (Imp.refl _) (fun x => ?_)
    refine WC.imp (M := stars (rtabL q L2 x) :: [mtab p S2, A, blk lb [.int .i64 2, .int .i64 v, .int .i64 m] 45]) (fun _ s => stars_append.1 s) ?_
    have hll2 : ∀ v, (L2 v).length < 100000 := fun v => by have := hl2 v; omega
    have hrt : ∀ {L}, stars (rtabL q L2 x) ∈ L → Ent L (rtab q L2) := fun m => Ent.mem m (up_stars _) fun _ h => ⟨x, h⟩
    have hrw : ∀ {L} (v : Int), stars (rtabL q L2 x) ∈ L → Ent L (readI (rofA x v) (rowL L2 v).length (rowL L2 v)) := fun v m => rof_read (up_stars _) (fun _ h => h) m v
    repeat (first | refine GD ?_ | refine NW fun _ => ?_)
    refine RD 31 31 ([blk lb [.int .i64 2, .int .i64 v, .int .i64 m] 45]) ?_
    refine WP 0 ?_
    refine WP 1 ?_
    refine VV 2 ?_
    refine WP 4 ?_
    refine WP 5 ?_
    refine VV 6 ?_
    refine WH.only 3 rfl rfl (by kernel_rfl) rfl (OP.callRT rfl rfl (mof_rt p S2 v hF2) (Ent.mem (A := mtab p S2) MM (up_mtab _ _) fun _ a => a) rfl rfl (fun x3 E3 hE3 => ?_))
    obtain ⟨aO, capO, o, ho, rfl, rfl⟩ := hE3
    have hol := sorted_few hF2 ho
    obtain rfl : o = rowL L2 v := sorted_uniq ho.1 (I2.row v).1 fun z => by rw [ho.2, (I2.row v).2]
    refine ⟨fun _ => II, ?_⟩
    refine WH.only 7 rfl rfl (by kernel_rfl) rfl (OP.callRO rfl rfl (rof_ro q L2 x v) (Ent.at (up_stars _) MM) rfl rfl ⟨fun _ => II, ?_⟩)
    refine WH.only 8 rfl rfl (by kernel_rfl) rfl (OP.callRO rfl rfl (msame_ro aO (rofA x v) (rowL L2 v).length capO (rowL L2 v).length (rofC x v) (rowL L2 v) (rowL L2 v) rfl rfl (by omega)) (Ent.and (Ent.own (T := 3) (cap := capO) MM) (hrw v MM)) rfl rfl ⟨fun _ => II, ?_⟩)
    rw [decide_eq_true (rfl : rowL L2 v = rowL L2 v)]
    refine WP 9 ?_
    refine WP 10 ?_
    refine WP 11 ?_
    refine WP 12 ?_
    refine WP 14 ?_
    refine WP 15 ?_
    refine WH.onlyG (q := true) 13 rfl rfl rfl rfl rfl rfl rfl (by kernel_rfl) rfl (.inl rfl) (fun _ => OP.callRT rfl rfl (mnewest_rt p S2 a1 n1 c1 vols hn1 (by omega)) (Ent.and (Ent.mem (A := mtab p S2) MM (up_mtab _ _) fun _ a => a) (hE1 MM)) rfl rfl (fun x3 E3 hE3 => ?_)) (fun h => nomatch h)
    obtain ⟨k9, hk9, rfl, rfl⟩ := hE3
    obtain rfl : k9 = newL L2 vols := hk9.uniq (I2.newest vols)
    refine ⟨fun _ => II, ?_⟩
    refine WH.onlyG (q := true) 16 rfl rfl rfl rfl rfl rfl rfl (by kernel_rfl) rfl (.inl rfl) (fun _ => OP.callRO rfl rfl (rnewest_ro q L2 a1 n1 c1 vols hn1 (by omega) hll2) (Ent.and (hrt MM) (hE1 MM)) rfl rfl ⟨fun _ => II, ?_⟩) (fun h => nomatch h)
    refine WP 17 ?_
    rw [decide_eq_true (rfl : newL L2 vols = newL L2 vols)]
    refine WP 18 ?_
    refine WP 19 ?_
    refine WP 20 ?_
    refine WP 21 ?_
    refine WP 22 ?_
    refine WP 24 ?_
    refine WP 25 ?_
    refine WP 26 ?_
    refine WH.onlyG (q := true) 23 rfl rfl rfl rfl rfl rfl rfl (by kernel_rfl) rfl (.inl rfl) (fun _ => OP.callRT rfl rfl (mlacks_rt p S2 mark a1 n1 c1 vols hn1 (by omega)) (Ent.and (Ent.mem (A := mtab p S2) MM (up_mtab _ _) fun _ a => a) (hE1 MM)) rfl rfl (fun x3 E3 hE3 => ?_)) (fun h => nomatch h)
    obtain ⟨a5, cap5, rfl, rfl⟩ := hE3
    refine ⟨fun _ => II, ?_⟩
    refine WH.onlyG (q := true) 27 rfl rfl rfl rfl rfl rfl rfl (by kernel_rfl) rfl (.inl rfl) (fun _ => OP.callRT rfl rfl (rlacks_rt q L2 mark a1 n1 c1 vols hn1 (by omega) hll2) (Ent.and (hrt MM) (hE1 MM)) rfl rfl (fun x3 E3 hE3 => ?_)) (fun h => nomatch h)
    rw [I2.lacks] at hE3
    obtain ⟨a6, cap6, rfl, rfl⟩ := hE3
    refine ⟨fun _ => II, ?_⟩
    refine WH.onlyG (q := true) 28 rfl rfl rfl rfl rfl rfl rfl (by kernel_rfl) rfl (.inl rfl) (fun _ => OP.callRO rfl rfl (msame_ro a5 a6 (lacksS S2 mark vols).length cap5 (lacksS S2 mark vols).length cap6 (lacksS S2 mark vols) (lacksS S2 mark vols) rfl rfl (by have : (lacksS S2 mark vols).length ≤ vols.length := List.length_filter_le _ _; omega)) (Ent.and (Ent.own (T := 3) (cap := cap5) MM) (Ent.own (T := 3) (cap := cap6) MM)) rfl rfl ⟨fun _ => II, ?_⟩) (fun h => nomatch h)
    rw [decide_eq_true (rfl : lacksS S2 mark vols = lacksS S2 mark vols)]
    refine WP 29 ?_
    refine WP 30 ?_
    refine DN ?_
    repeat (first | refine GD ?_ | refine NW fun _ => ?_)
    exact ⟨(k + 1, S2, L2), ⟨by dsimp only; omega, I2, hF2, hl2⟩, by dsimp only; omega, ⟨rfl, rfl, rfl, rfl, rfl, rfl, rfl, trivial⟩, Imp.trans (show Imp _ (stars (rtabL q L2 x) :: [mtab p S2, A]) from II) (fun h s => stars_head_mono (fun _ hk => ⟨x, hk⟩) s)⟩
  · have I2 := I
    have hF2 := hF
    have hl2 : ∀ a, (Lf a).length ≤ k + 1 := fun a => Nat.le_succ_of_le (hl a)
    repeat (first | refine GD ?_ | refine NW fun _ => ?_)
    rename_i lb
    refine WC.imp (M := [rtab q Lf, mtab p S, A, blk lb [.int .i64 kd, .int .i64 v, .int .i64 m] 45]) II ?_
    refine WC.open (M := [mtab p S, A, blk lb [.int .i64 kd, .int .i64 v, .int .i64 m] 45]) (Ls := rtabL q Lf) (Imp.refl _) (fun x => ?_)
    refine WC.imp (M := stars (rtabL q Lf x) :: [mtab p S, A, blk lb [.int .i64 kd, .int .i64 v, .int .i64 m] 45]) (fun _ s => stars_append.1 s) ?_
    have hll2 : ∀ v, (Lf v).length < 100000 := fun v => by have := hl2 v; omega
    have hrt : ∀ {L}, stars (rtabL q Lf x) ∈ L → Ent L (rtab q Lf) := fun m => Ent.mem m (up_stars _) fun _ h => ⟨x, h⟩
    have hrw : ∀ {L} (v : Int), stars (rtabL q Lf x) ∈ L → Ent L (readI (rofA x v) (rowL Lf v).length (rowL Lf v)) := fun v m => rof_read (up_stars _) (fun _ h => h) m v
    repeat (first | refine GD ?_ | refine NW fun _ => ?_)
    refine RD 31 31 ([blk lb [.int .i64 kd, .int .i64 v, .int .i64 m] 45]) ?_
    refine WP 0 ?_
    refine WP 1 ?_
    refine VV 2 ?_
    refine WP 4 ?_
    refine WP 5 ?_
    refine VV 6 ?_
    refine WH.only 3 rfl rfl (by kernel_rfl) rfl (OP.callRT rfl rfl (mof_rt p S v hF2) (Ent.mem (A := mtab p S) MM (up_mtab _ _) fun _ a => a) rfl rfl (fun x3 E3 hE3 => ?_))
    obtain ⟨aO, capO, o, ho, rfl, rfl⟩ := hE3
    have hol := sorted_few hF2 ho
    obtain rfl : o = rowL Lf v := sorted_uniq ho.1 (I2.row v).1 fun z => by rw [ho.2, (I2.row v).2]
    refine ⟨fun _ => II, ?_⟩
    refine WH.only 7 rfl rfl (by kernel_rfl) rfl (OP.callRO rfl rfl (rof_ro q Lf x v) (Ent.at (up_stars _) MM) rfl rfl ⟨fun _ => II, ?_⟩)
    refine WH.only 8 rfl rfl (by kernel_rfl) rfl (OP.callRO rfl rfl (msame_ro aO (rofA x v) (rowL Lf v).length capO (rowL Lf v).length (rofC x v) (rowL Lf v) (rowL Lf v) rfl rfl (by omega)) (Ent.and (Ent.own (T := 3) (cap := capO) MM) (hrw v MM)) rfl rfl ⟨fun _ => II, ?_⟩)
    rw [decide_eq_true (rfl : rowL Lf v = rowL Lf v)]
    refine WP 9 ?_
    refine WP 10 ?_
    refine WP 11 ?_
    refine WP 12 ?_
    refine WP 14 ?_
    refine WP 15 ?_
    refine WH.onlyG (q := true) 13 rfl rfl rfl rfl rfl rfl rfl (by kernel_rfl) rfl (.inl rfl) (fun _ => OP.callRT rfl rfl (mnewest_rt p S a1 n1 c1 vols hn1 (by omega)) (Ent.and (Ent.mem (A := mtab p S) MM (up_mtab _ _) fun _ a => a) (hE1 MM)) rfl rfl (fun x3 E3 hE3 => ?_)) (fun h => nomatch h)
    obtain ⟨k9, hk9, rfl, rfl⟩ := hE3
    obtain rfl : k9 = newL Lf vols := hk9.uniq (I2.newest vols)
    refine ⟨fun _ => II, ?_⟩
    refine WH.onlyG (q := true) 16 rfl rfl rfl rfl rfl rfl rfl (by kernel_rfl) rfl (.inl rfl) (fun _ => OP.callRO rfl rfl (rnewest_ro q Lf a1 n1 c1 vols hn1 (by omega) hll2) (Ent.and (hrt MM) (hE1 MM)) rfl rfl ⟨fun _ => II, ?_⟩) (fun h => nomatch h)
    refine WP 17 ?_
    rw [decide_eq_true (rfl : newL Lf vols = newL Lf vols)]
    refine WP 18 ?_
    refine WP 19 ?_
    refine WP 20 ?_
    refine WP 21 ?_
    refine WP 22 ?_
    refine WP 24 ?_
    refine WP 25 ?_
    refine WP 26 ?_
    refine WH.onlyG (q := true) 23 rfl rfl rfl rfl rfl rfl rfl (by kernel_rfl) rfl (.inl rfl) (fun _ => OP.callRT rfl rfl (mlacks_rt p S mark a1 n1 c1 vols hn1 (by omega)) (Ent.and (Ent.mem (A := mtab p S) MM (up_mtab _ _) fun _ a => a) (hE1 MM)) rfl rfl (fun x3 E3 hE3 => ?_)) (fun h => nomatch h)
    obtain ⟨a5, cap5, rfl, rfl⟩ := hE3
    refine ⟨fun _ => II, ?_⟩
    refine WH.onlyG (q := true) 27 rfl rfl rfl rfl rfl rfl rfl (by kernel_rfl) rfl (.inl rfl) (fun _ => OP.callRT rfl rfl (rlacks_rt q Lf mark a1 n1 c1 vols hn1 (by omega) hll2) (Ent.and (hrt MM) (hE1 MM)) rfl rfl (fun x3 E3 hE3 => ?_)) (fun h => nomatch h)
    rw [I2.lacks] at hE3
    obtain ⟨a6, cap6, rfl, rfl⟩ := hE3
    refine ⟨fun _ => II, ?_⟩
    refine WH.onlyG (q := true) 28 rfl rfl rfl rfl rfl rfl rfl (by kernel_rfl) rfl (.inl rfl) (fun _ => OP.callRO rfl rfl (msame_ro a5 a6 (lacksS S mark vols).length cap5 (lacksS S mark vols).length cap6 (lacksS S mark vols) (lacksS S mark vols) rfl rfl (by have : (lacksS S mark vols).length ≤ vols.length := List.length_filter_le _ _; omega)) (Ent.and (Ent.own (T := 3) (cap := cap5) MM) (Ent.own (T := 3) (cap := cap6) MM)) rfl rfl ⟨fun _ => II, ?_⟩) (fun h => nomatch h)
    rw [decide_eq_true (rfl : lacksS S mark vols = lacksS S mark vols)]
    refine WP 29 ?_
    refine WP 30 ?_
    refine DN ?_
    repeat (first | refine GD ?_ | refine NW fun _ => ?_)
    exact ⟨(k + 1, S, Lf), ⟨by dsimp only; omega, I2, hF2, hl2⟩, by dsimp only; omega, ⟨rfl, rfl, rfl, rfl, rfl, rfl, rfl, trivial⟩, Imp.trans (show Imp _ (stars (rtabL q Lf x) :: [mtab p S, A]) from II) (fun h s => stars_head_mono (fun _ hk => ⟨x, hk⟩) s)⟩
end Go.Proofs.YtacgheafbkfciaaDoor
namespace Go.Proofs.YtacgheafbkfciaaDoor
open Go Go.GL Go.ChangeShapes Go.WideShapes Go.ChangeAt Go.RowKit
open Go.ChangeMaps (open_string shut_string)
set_option linter.unusedVariables false

theorem ownMarksPlay : ownKnob Tryd.prog.godebug = none := by kernel_rfl
theorem laidOutMarksPlay : laidOutB Tryd.prog = true := by kernel_rfl
theorem etMarksPlay : Tryd.prog.globalNamed "errors.errorType" = some 0 := by kernel_rfl
theorem rtMarksPlay : (Tryd.prog.cutTypes.find? (·.1 == "internal/reflectlite.rtype")).map (·.2) = some 84 := by kernel_rfl
theorem oneRowMarksPlay : ((List.range 150).filter fun t => Tryd.prog.rowNamed t [101, 114, 114, 111, 114]) = [29] := by kernel_rfl
theorem sizeMarksPlay : Tryd.prog.types.size = 150 := by kernel_rfl
theorem handleMarksPlay {W : World} (h : laidMetH Tryd.prog [("errors.errorType", Rows.laid_errors_errorType)] W) : W.cell? ⟨0, 0, none⟩ = some errT := by
  have h' : laidMet Tryd.prog [] W ∧ handlesMet Tryd.prog [("errors.errorType", Rows.laid_errors_errorType)] W := h
  obtain ⟨name, u, ty, e1, e2, e3, e4, e5⟩ := h'.2 _ (List.mem_singleton.2 rfl)
  have en : name = [101, 114, 114, 111, 114] := (Option.some.inj e1).symm
  subst en
  obtain rfl := Option.some.inj (rtMarksPlay.symm.trans e2)
  have hm : ty ∈ (List.range 150).filter fun t => Tryd.prog.rowNamed t [101, 114, 114, 111, 114] := List.mem_filter.2 ⟨List.mem_range.2 (by rw [← sizeMarksPlay]; exact e3), e4⟩
  rw [oneRowMarksPlay] at hm
  obtain rfl := List.mem_singleton.1 hm
  have hh : typeHandle Tryd.prog 29 = .pointer (some ⟨1, 29, none⟩) := by kernel_rfl
  rw [hh] at e5
  have := World.var?_cell etMarksPlay e5 0
  simpa [errT, rt, hd] using this
theorem cellAt_of {w : World} {b off : Nat} {v : Value} (h : w.cell? ⟨b, off, none⟩ = some v) : cellAt b off v (hpOf w) := by
  unfold World.cell? at h
  split at h
  · rename_i c T fr hb
    exact ⟨c, T, fr, hpOf_obj.2 hb, by simpa using h⟩
  · cases h
noncomputable def laidWorld (os : Os) : World :=
  let w0 := World.holding Tryd.prog os ⟨#[], #[], []⟩
  { w0 with heap := w0.heap.modify 0 fun
      | .cells _ t frozen => .cells #[.iface 84 (.agg #[.pointer (some ⟨1, 29, none⟩)])] t frozen
      | o => o }
theorem laidWorld_met (os : Os) (args : Array Value) : laidMetH Tryd.prog [("errors.errorType", Rows.laid_errors_errorType)] ((laidWorld os).forCall (fun _ _ => 0) ⟨#[], args, []⟩).memory :=
  laidMetH_of_parts (laidMet_nil _ _) (by kernel_rfl)
set_option maxRecDepth 100000 in
theorem liftedMarksPlay (os : Os) (started : os.Started) (H : Type) (enc : TypeId × Value → H) :
    ReturnsInHanded {} Tryd.checked os 4 .any (fun w args => (Rows.marksPlaySpec.pre enc Tryd.prog Tryd.f4 [] false w args ∧ laidMetH Tryd.prog [("errors.errorType", Rows.laid_errors_errorType)] w) ∧ sizedMet enc Tryd.prog Tryd.f4 (OpenSpec.ofChange Rows.marksPlaySpec) false w args)
      (Rows.marksPlaySpec.post enc Tryd.prog Tryd.f4 false true false false) := by
  refine returnsInHanded_of_change_and (C := Tryd.checked) (X := fun w _ => laidMetH Tryd.prog [("errors.errorType", Rows.laid_errors_errorType)] w) (fun _ _ _ hh h => h.of_heap hh) ownMarksPlay started (by kernel_rfl) Tryd.func4
    (ChangeSpec.witness_at (enc := enc) (C := Tryd.checked) (os := os) (X := fun w _ => laidMetH Tryd.prog [("errors.errorType", Rows.laid_errors_errorType)] w) false (laidWorld os) #[.slice none 0 0, .slice none 0 0, .int .i64 0] 8 rfl (by kernel_rfl) (by kernel_rfl) (by kernel_rfl) (by kernel_rfl) (by kernel_rfl) (laidWorld_met os _)) ?_
  intro W base args ds gs before hval0 hW _ _ hL _
  have hval : ∀ (j : Nat) t v, Tryd.f4.params[j]? = some t → args[j]? = some v → Value.okWide Tryd.prog W .any base t v := hval0
  have hW' := hW
  obtain ⟨p, q, hA0, hV0, rfl, hfz, hnd⟩ := hW
  have hV : DataW.TrodVars enc Tryd.prog W (fun _ => true) [] gs q := hV0
  have hE := cellAt_of (handleMarksPlay hL)
  have hA : DataW.TrodAll enc Tryd.prog W 0 (fun _ => true) true Tryd.f4.params.toList args.toList ds p := hA0
  rw [Tryd.params4] at hA hval
  obtain ⟨v0, vs0, d0, ds0, p0, q0, hargs, rfl, rfl, h0, r0⟩ := trodAll_cons hA
  obtain ⟨v1, vs1, d1, ds1, p1, q1, rfl, rfl, rfl, h1, r1⟩ := trodAll_cons r0
  obtain ⟨v2, vs2, d2, ds2, p2, q2, rfl, rfl, rfl, h2, r2⟩ := trodAll_cons r1
  obtain ⟨rfl, rfl, rfl⟩ := trodAll_nil r2
  obtain rfl : args = #[v0, v1, v2] := by cases args; simp_all
  obtain ⟨rfl, rfl⟩ : gs = [] ∧ q = [] := by
    cases gs with
    | nil => exact ⟨rfl, hV⟩
    | cons g r => exact absurd hV (by intro h; cases h)
  have k0 := h0
  obtain ⟨a0, len0, cap0, rw0, rfl, hr0, hc0, hm0, ho0, R0⟩ := open_row (n := 8) (l := [.int .i64, .int .i64, .int .i64]) Tryd.underlying36 (by kernel_rfl) (by kernel_rfl) (hval 0 36 v0 rfl rfl) h0
  obtain ⟨l0, hl0, hn0, w0⟩ := rows_enc (fun x hx => mop_of (ho0 x hx))
  rw [hl0] at R0
  rw [hr0] at hn0
  have k1 := h1
  obtain ⟨a1, len1, cap1, rw1, rfl, hr1, hc1, hm1, ho1, R1⟩ := open_row (n := 4) (l := [.int .i64]) Tryd.underlying22 (by kernel_rfl) (by kernel_rfl) (hval 1 22 v1 rfl rfl) h1
  obtain ⟨l1, hl1, hn1, w1⟩ := rows_ints ho1
  rw [hl1] at R1
  rw [hr1] at hn1
  have k2 := h2
  obtain ⟨a2, rfl, _, _, w2⟩ := open_int Tryd.underlying3 (hval 2 3 v2 rfl rfl) h2
  clear hA0 hval0
  refine ((mplay_ro a0 a1 len0 cap0 len1 cap1 l0 l1 a2 hn0.symm hn1.symm w0).calls W ⟨hE, R0, R1⟩).mono fun e W' ⟨he, ext⟩ => ?_
  subst he
  exact ⟨_, rfl, _, _, _, [], _, [], hW', trodAll_mk1 (shut_bool Tryd.underlying4 _), (trodAll_cons_mk (GL.Ext.trod laidOutMarksPlay (by kernel_rfl) (of_decide_eq_true (by kernel_rfl)) k0 ext) (trodAll_cons_mk (GL.Ext.trod laidOutMarksPlay (by kernel_rfl) (of_decide_eq_true (by kernel_rfl)) k1 ext) (trodAll_cons_mk (GL.Ext.trod laidOutMarksPlay (by kernel_rfl) (of_decide_eq_true (by kernel_rfl)) k2 ext) trodAll_mk0))), rfl, ext.keptBut _, fun h => by cases h⟩
theorem overMarksPlay : Rows.marksPlayRow.holds Tryd.pinned (OpenSpec.ofChange Rows.marksPlaySpec) :=
  OpenClaim.holds_of_wide 4 Tryd.f4 rfl rfl rfl rfl rfl rfl rfl ⟨rfl, rfl, rfl, rfl, rfl⟩ rfl rfl rfl rfl rfl (by kernel_rfl) Tryd.func4 (by kernel_rfl)
    (of_decide_eq_true (by kernel_rfl)) (by unfold Func.isWrapper; first | (rw [if_pos (by decide +kernel)]; kernel_rfl) | (rw [if_neg (by decide +kernel)]; exact ⟨rfl, rfl⟩))
    (fun os started H enc _ => liftedMarksPlay os started H enc)
theorem marksPlay_holds : Rows.MarksPlayCardSaid :=
  Claim7.holds_tied_plain_at .later [] [.handle] true (true, "6fd25310d68fa193b5ee8893b308a6e06c171d0ad4f276e93bec45c6687ffdac") true
    overMarksPlay (fun _ h => by cases h) (by kernel_rfl) (fun _ h => by cases h) marksPlay_row_tie rfl ⟨rfl, rfl⟩ (by kernel_rfl) rfl
    (fun f fn hf hfn => by
      obtain rfl : f = 4 := Option.some.inj ((show Tryd.prog.funcNamed Rows.marksPlayRow.func = some 4 by kernel_rfl).symm.trans hf) |>.symm
      obtain rfl : fn = Tryd.f4 := (Option.some.inj (Tryd.func4.symm.trans hfn)).symm
      exact ⟨by kernel_rfl, fun j t ht => by
        rw [Tryd.params4] at ht
        match j, ht with
        | 0, ht => obtain rfl : 36 = t := by simpa using ht
                   exact (show Tryd.prog.wantsStandIn 36 = false by kernel_rfl)
        | 1, ht => obtain rfl : 22 = t := by simpa using ht
                   exact (show Tryd.prog.wantsStandIn 22 = false by kernel_rfl)
        | 2, ht => obtain rfl : 3 = t := by simpa using ht
                   exact (show Tryd.prog.wantsStandIn 3 = false by kernel_rfl)
        | (k + 3), ht => simp at ht⟩)
    (by kernel_rfl)
end Go.Proofs.YtacgheafbkfciaaDoor
