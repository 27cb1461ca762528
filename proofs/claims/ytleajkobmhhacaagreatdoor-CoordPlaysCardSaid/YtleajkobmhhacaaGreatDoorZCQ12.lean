/- Contracts of functions of the given program, and plain laws: parts of the proofs of laws. -/
import Derived.Test.YtleajkobmhhacaaGreatDoorZCQ4
import Derived.Test.YtleajkobmhhacaaGreatDoorZCQ11
import Derived.Test.YtleajkobmhhacaaGreatDoorZCQ9
import Derived.Test.YtleajkobmhhacaaGreatDoorZCQ7
import Derived.Test.YtleajkobmhhacaaGreatDoorZCQ3
import Derived.Test.YtleajkobmhhacaaGreatDoorZCQ8
import Derived.Test.YtleajkobmhhacaaGreatDoorZCQ5
/- Contracts of functions of the given program, and plain laws on what they compute: parts of the proofs of laws. -/

namespace Go.Proofs.YtleajkobmhhacaaGreatDoor
open Go Go.GL

/-! a group in memory -/
def grp (g : Nat) (f : List Bool) (ch : List Ch) : Assn := exA (fun x : Option Addr × Nat => grpL g x.1 ch.length x.2 f ch)
theorem up_grp (g : Nat) (f : List Bool) (ch : List Ch) : Up (grp g f ch) := up_exA _
theorem grp_R {g : Nat} {f : List Bool} {ch : List Ch} {x : Option Addr × Nat} {h : Hp} (s : stars (grpL g x.1 ch.length x.2 f ch) h) : grpR g x.1 x.2 f ch h ∧ ch.length ≤ x.2 :=
  ⟨(Ent.and (Ent.whole (List.Mem.head _)) (Ent.own (List.Mem.tail _ (List.Mem.head _)))) h s, Ent.ownLe (List.Mem.tail _ (List.Mem.head _)) h s⟩
theorem gat_rt (g : Nat) (f : List Bool) (ch : List Ch) (m : Int) (hf : f.length = 4) (hv : Vols ch) (hs : ch.length ≤ 100) :
    RT G 33 [.pointer (some ⟨g, 0, none⟩), .int .i64 m] (grp g f ch) (Ints (listM (atM m f ch))) := by
  refine RT.ofEx (R := fun x : Option Addr × Nat => stars (grpL g x.1 ch.length x.2 f ch)) (at_ok g none ch.length f ch m hf hv (Nat.le_refl _) (by omega)).enters (fun _ => up_stars _) (fun x h s => ?_)
  have H := at_ok g x.1 x.2 f ch m hf hv (grp_R s).2 (by omega)
  exact ⟨H.enters, fun M w he hw => H.calls M w (fun k s => (grp_R (he k s)).1) hw⟩
theorem glast_ro (g : Nat) (f : List Bool) (ch : List Ch) (hf : f.length = 4) (hs : ch.length ≤ 100) :
    RO G 35 [.pointer (some ⟨g, 0, none⟩)] (grp g f ch) (.int .i64 (lastM ch)) := by
  refine RO.ofEx (R := fun x : Option Addr × Nat => stars (grpL g x.1 ch.length x.2 f ch)) (last_ro g none ch.length f ch hf (by omega)).enters (fun x h s => ?_)
  have H := last_ro g x.1 x.2 f ch hf (by omega)
  exact ⟨H.enters, fun w hw => H.calls w (grp_R hw).1⟩
def PutG (g : Nat) (f : List Bool) (ch : List Ch) (c : Ch) (v : Value) (M : List Assn) : Prop := match putM f ch c with
  | some code => ∃ E, Fault member c.2.1 code v E ∧ M = E ++ [grp g f ch]
  | none => v = .nilIface ∧ M = [grp g f (ch ++ [c])]
theorem PutPost.g {g : Nat} {a : Option Addr} {cap : Nat} {f : List Bool} {ch : List Ch} {c : Ch} {v : Value} {M : List Assn} (h : PutPost g a cap f ch c v M) : ∃ M', PutG g f ch c v M' ∧ Imp M M' := by
  unfold PutPost at h
  unfold PutG
  cases hp : putM f ch c with
  | some code =>
    rw [hp] at h
    obtain ⟨E, h1, rfl⟩ := h
    refine ⟨_, ⟨E, h1, rfl⟩, Imp.appL ?_ _⟩
    exact Imp.trans (by rw [List.append_nil]; exact Imp.refl _) (Imp.fold (Ls := fun x : Option Addr × Nat => grpL g x.1 ch.length x.2 f ch) (a, cap) (M := []))
  | none =>
    rw [hp] at h
    obtain ⟨rfl, a', cap', rfl⟩ := h
    refine ⟨_, ⟨rfl, rfl⟩, ?_⟩
    have := Imp.fold (Ls := fun x : Option Addr × Nat => grpL g x.1 (ch ++ [c]).length x.2 f (ch ++ [c])) (a', cap') (M := [])
    rw [List.append_nil] at this
    unfold grp
    simp only [List.length_append, List.length_cons, List.length_nil, Nat.zero_add] at this ⊢
    exact this
theorem gadd_ok (g : Nat) (f : List Bool) (ch : List Ch) (v m : Int) (hf : f.length = 4) (hv : Vols ch) (hs : ch.length ≤ 100) :
    Triple G 164 [.pointer (some ⟨g, 0, none⟩), .int .i64 v, .int .i64 m] [grp g f ch] (PutG g f ch (m, v, false)) :=
  Triple.ofEx (add_ok g none 0 f ch v m hf hv hs).enters fun x _ _ => ((add_ok g x.1 x.2 f ch v m hf hv hs).mono fun _ _ h => h.g).pre (by rw [List.append_nil]; exact Imp.refl _)
theorem gremove_ok (g : Nat) (f : List Bool) (ch : List Ch) (v m : Int) (hf : f.length = 4) (hv : Vols ch) (hs : ch.length ≤ 100) :
    Triple G 165 [.pointer (some ⟨g, 0, none⟩), .int .i64 v, .int .i64 m] [grp g f ch] (PutG g f ch (m, v, true)) :=
  Triple.ofEx (remove_ok g none 0 f ch v m hf hv hs).enters fun x _ _ => ((remove_ok g x.1 x.2 f ch v m hf hv hs).mono fun _ _ h => h.g).pre (by rw [List.append_nil]; exact Imp.refl _)
/-! a coordinator in memory -/
abbrev Fst := Option Addr × Nat × Nat
def restC (last marked : Int) (q : Nat) (ring : Int) (j : Value) (fv : Fst) (g : Nat) : List Value := [.int .i64 last, .int .i64 marked, .pointer (some ⟨q, 0, none⟩), .int .i64 ring, j, .slice fv.1 fv.2.1 fv.2.2, .pointer (some ⟨g, 0, none⟩)]
abbrev ndT : TypeId := 166
theorem cwrong_nil (at_ : Int) : RO G 76 [.int .i64 at_, .nilIface] (fun _ => True) .nilIface := by
  refine RO.enter Tryz.func76 rfl (by decide) rfl Tryz.ntmps76 rfl (fun A hu hA => ?_) (fun _ _ _ h => h)
  repeat (first | refine GO ?_ | refine NW fun _ => ?_)
  refine WL.step rfl (OP.callRO rfl rfl (wrap_nil coordT at_) (fun _ _ => trivial) rfl rfl ?_)
  repeat (first | refine GO ?_ | refine NW fun _ => ?_)
  exact ret1 rfl ⟨rfl, MM⟩
set_option maxRecDepth 10000 in
theorem cwrong_ok (at_ : Int) (ch : Chain) (c : Int) (h : ¬ (ch = [] ∧ c = 0)) : Triple G 76 [.int .i64 at_, valOf ch c] [chainR ch c] (IsEr (some ((coordT, at_) :: ch.map Prod.snd, c))) := by
  refine Triple.enter Tryz.func76 rfl (by decide) rfl Tryz.ntmps76 rfl (fun F => ?_)
  repeat (first | refine GO ?_ | refine NW fun _ => ?_)
  refine WL.step rfl (OP.call (pre := [chainR ch c]) rfl rfl (wrapC_ok coordT at_ ch c h) PS rfl rfl ?_)
  intro v M hM
  repeat (first | refine GO ?_ | refine NW fun _ => ?_)
  exact ret1 rfl ⟨M, hM, Imp.refl _⟩
set_option maxRecDepth 10000 in
theorem cdown_nil : RO G 81 [.pointer none] (fun _ => True) (.bool true) := by
  refine RO.enter Tryz.func81 rfl (by decide) rfl Tryz.ntmps81 rfl (fun A hu hA => ?_) (fun _ _ _ h => h)
  repeat (first | refine GO ?_ | refine NW fun _ => ?_)
  exact ret1 rfl ⟨rfl, MM⟩
set_option maxRecDepth 10000 in
theorem cdown_ro (p : Nat) (R : Rnd) (last marked : Int) (q : Nat) (ring : Int) (j : Nat) (fv : Fst) (g : Nat) : RO G 81 [.pointer (some ⟨p, 0, none⟩)] (rnd p ndT (restC last marked q ring (.pointer (some ⟨j, 0, none⟩)) fv g) R) (.bool false) := by
  refine RO.enterEx Tryz.func81 rfl (by decide) rfl Tryz.ntmps81 rfl (fun x A hu hA => ?_)
  have hB : ∀ {L}, A ∈ L → Ent L (cellsAt p 0 (rndC R x ++ restC last marked q ring (.pointer (some ⟨j, 0, none⟩)) fv g)) := fun m => Ent.of hu hA m (Ent.whole (List.Mem.head _))
  repeat (first | refine GO ?_ | refine NW fun _ => ?_)
  refine WL.guardT rfl rfl rfl rfl (OP.load1 (v := .pointer (some ⟨j, 0, none⟩)) rfl rfl rfl rfl (Ent.one (i := 13) (hB MM) rfl) rfl rfl ?_)
  repeat (first | refine GO ?_ | refine NW fun _ => ?_)
  exact ret1 rfl ⟨rfl, MM⟩
def ChgG (p : Nat) (R : Rnd) (last marked : Int) (q : Nat) (ring : Int) (j : Value) (fv : Fst) (g : Nat) (f : List Bool) (ch : List Ch) (c : Ch) (v : Value) (M : List Assn) : Prop := ∃ M', PutG g f ch c v M' ∧ M = M' ++ [rnd p ndT (restC last marked q ring j fv g) R]
set_option maxHeartbeats 4000000 in
set_option maxRecDepth 10000 in
theorem cchange_ok (p : Nat) (R : Rnd) (last marked : Int) (q : Nat) (ring : Int) (j : Value) (fv : Fst) (g : Nat) (f : List Bool) (ch : List Ch) (vol : Int) (inn : Bool) (hf : f.length = 4) (hv : Vols ch) (hs : ch.length ≤ 100) (hl : 0 ≤ last ∧ last ≤ 1152921504606846975) :
    Triple G 96 [.pointer (some ⟨p, 0, none⟩), .int .i64 vol, .bool inn] [rnd p ndT (restC last marked q ring j fv g) R, grp g f ch] (ChgG p R last marked q ring j fv g f ch (last + 1, vol, !inn)) := by
  refine Triple.enter Tryz.func96 rfl (by decide) rfl Tryz.ntmps96 rfl (fun F => ?_)
  have h1 := gadd_ok g f ch vol (last + 1) hf hv hs
  have h2 := gremove_ok g f ch vol (last + 1) hf hv hs
  refine WC.open (M := [grp g f ch, F]) (Ls := rndL p ndT (restC last marked q ring j fv g) R) II (fun x => ?_)
  have hback := fun (N : List Assn) => rndFold p ndT (restC last marked q ring j fv g) R x (N := N)
  unfold rndL
  unfold rndC restC at *
  dsimp only [List.cons_append, List.nil_append] at *
  cases inn with
  | true =>
    repeat (first | refine GD ?_ | refine NW fun _ => ?_)
    refine RD 11 13 (_) ?_
    refine WP 0 ?_
    refine WP 1 ?_
    refine WP 2 ?_
    refine VV 3 ?_
    refine WP 4 ?_
    refine WP 5 ?_
    refine WP 6 ?_
    refine WP 7 ?_
    refine WP 8 ?_
    refine VV 9 ?_
    refine WP 10 ?_
    refine WH.only 11 rfl rfl (by kernel_rfl) rfl (OP.call (pre := [grp g f ch]) rfl rfl h1 PS rfl rfl (fun v M hM => ⟨(fun h => nomatch h), ?_⟩))
    refine WP 12 ?_
    refine DN ?_
    repeat (first | refine GD ?_ | refine NW fun _ => ?_)
    refine ret1 rfl ⟨M ++ [rnd p ndT (restC last marked q ring j fv g) R], ⟨M, hM, rfl⟩, ?_⟩
    rw [List.append_assoc]
    exact Imp.appL (Imp.trans (hback [F]) II) _
  | false =>
    repeat (first | refine GD ?_ | refine NW fun _ => ?_)
    refine RD 11 13 (_) ?_
    refine WP 0 ?_
    refine WP 1 ?_
    refine WP 2 ?_
    refine VV 3 ?_
    refine WP 4 ?_
    refine WP 5 ?_
    refine WP 6 ?_
    refine WP 7 ?_
    refine WP 8 ?_
    refine VV 9 ?_
    refine WP 10 ?_
    refine WH.only 11 rfl rfl (by kernel_rfl) rfl (OP.call (pre := [grp g f ch]) rfl rfl h2 PS rfl rfl (fun v M hM => ⟨(fun h => nomatch h), ?_⟩))
    refine WP 12 ?_
    refine DN ?_
    repeat (first | refine GD ?_ | refine NW fun _ => ?_)
    refine ret1 rfl ⟨M ++ [rnd p ndT (restC last marked q ring j fv g) R], ⟨M, hM, rfl⟩, ?_⟩
    rw [List.append_assoc]
    exact Imp.appL (Imp.trans (hback [F]) II) _
end Go.Proofs.YtleajkobmhhacaaGreatDoor
/- Contracts of functions of the given program, and plain laws on what they compute: parts of the proofs of laws. -/

namespace Go.Proofs.YtleajkobmhhacaaGreatDoor
open Go Go.GL

theorem knowM_inv {f : List Bool} {s : Int × List Ch} {r : Rec} (h : 0 ≤ s.1 ∧ s.1 ≤ widest) (hr : RightR r) (hv : Vols s.2) (hs : s.2.length ≤ 100) :
    (0 ≤ (knowM f s r).1 ∧ (knowM f s r).1 ≤ widest) ∧ Vols (knowM f s r).2 ∧ (knowM f s r).2.length ≤ 100 := by
  unfold knowM
  split
  · rename_i hk
    have hn : r.2.2.2.2 ≤ widest := by
      rcases hr.2 with h | h
      · exact h.2.1.2
      · omega
    refine ⟨?_, hv, hs⟩
    dsimp only
    split <;> omega
  · split
    · exact ⟨h, putCh_inv hv hs⟩
    · exact ⟨h, hv, hs⟩
theorem putCh_g {g : Nat} {f : List Bool} {ch : List Ch} {c : Ch} {v : Value} {M : List Assn} (h : PutG g f ch c v M) : ∃ E, M = E ++ [grp g f (putCh f ch c)] := by
  unfold PutG at h
  unfold putCh
  cases hp : putM f ch c with
  | some code =>
    rw [hp] at h
    obtain ⟨E, _, rfl⟩ := h
    exact ⟨E, rfl⟩
  | none =>
    rw [hp] at h
    exact ⟨[], h.2⟩
set_option maxHeartbeats 4000000 in
set_option maxRecDepth 10000 in
theorem cknow_ok (p : Nat) (R : Rnd) (last marked : Int) (q : Nat) (ring : Int) (j : Value) (fv : Fst) (g : Nat) (f : List Bool) (ch : List Ch) (r : Rec) (hf : f.length = 4) (hv : Vols ch) (hs : ch.length ≤ 100) (hl : 0 ≤ last ∧ last ≤ widest) :
    Triple G 148 [.pointer (some ⟨p, 0, none⟩), .agg (encR r).toArray] [rnd p ndT (restC last marked q ring j fv g) R, grp g f ch]
      (fun v M => v = .tuple #[] ∧ M = [rnd p ndT (restC (knowM f (last, ch) r).1 marked q ring j fv g) R, grp g f (knowM f (last, ch) r).2]) := by
  refine Triple.enter Tryz.func148 rfl (by decide) rfl Tryz.ntmps148 rfl (fun F => ?_)
  have hw : widest = 1152921504606846975 := rfl
  obtain ⟨seq, kind, block, data, num⟩ := r
  have hdef : knowM f (last, ch) (seq, kind, block, data, num) = if kind = 2 then (if last < num then num else last, ch)
    else if data = plusB ∨ data = minusB then (last, putCh f ch (last + 1, block, decide (data ≠ plusB))) else (last, ch) := rfl
  rw [show encR (seq, kind, block, data, num) = [.int .i64 seq, .int .i64 kind, .int .i64 block, .string data, .int .i64 num] from rfl]
  have hch := fun b => cchange_ok p R last marked q ring j fv g f ch block b hf hv hs ⟨hl.1, by omega⟩
  by_cases h2 : kind = 2
  · rw [if_pos h2] at hdef
    rw [hdef]
    refine WC.open (M := [grp g f ch, F]) (Ls := rndL p ndT (restC last marked q ring j fv g) R) II (fun x => ?_)
    have hback := fun (l : Int) (N : List Assn) => rndFold p ndT (restC l marked q ring j fv g) R x (N := N)
    unfold rndL
    unfold rndC restC at *
    dsimp only [List.cons_append, List.nil_append] at *
    repeat (first | refine GD ?_ | refine NW fun _ => ?_)
    rename_i bc
    refine RD 12 13 (_) ?_
    refine WP 0 ?_
    refine WP 1 ?_
    refine WP 2 ?_
    refine WP 3 ?_
    refine WP 4 ?_
    refine VV 5 ?_
    refine WP 6 ?_
    refine VV 7 ?_
    refine WP 8 ?_
    refine WP 9 ?_
    refine WP 10 ?_
    refine WP 11 ?_
    refine WH.only 12 rfl rfl (by kernel_rfl) rfl (OP.store rfl rfl rfl rfl rfl rfl rfl UP rfl ⟨(fun h => nomatch h), ?_⟩)
    refine DN ?_
    repeat (first | refine GD ?_ | refine NW fun _ => ?_)
    refine ret0n ⟨[rnd p ndT _ R, grp g f ch], ⟨rfl, rfl⟩, Imp.trans II (Imp.trans (hback (if last < num then num else last) [grp g f ch, F]) II)⟩
  rw [if_neg h2] at hdef
  by_cases hp : data = plusB
  · subst hp
    rw [if_pos (.inl rfl), show decide (plusB ≠ plusB) = !true from decide_eq_false (not_not_intro rfl)] at hdef
    rw [hdef]
    repeat (first | refine GD ?_ | refine NW fun _ => ?_)
    refine WL.step rfl (OP.call (pre := [rnd p ndT (restC last marked q ring j fv g) R, grp g f ch]) rfl rfl (hch true) PS rfl rfl ?_)
    rintro v _ ⟨M', hM, rfl⟩
    obtain ⟨E, rfl⟩ := putCh_g hM
    repeat (first | refine GD ?_ | refine NW fun _ => ?_)
    refine ret0n ⟨[rnd p ndT (restC last marked q ring j fv g) R, grp g f (putCh f ch (last + 1, block, !true))], ⟨rfl, rfl⟩, ?_⟩
    rw [List.append_assoc, List.append_assoc]
    exact Imp.trans (Imp.dropL E _) II
  by_cases hm : data = minusB
  · subst hm
    rw [if_pos (.inr rfl), show decide (minusB ≠ plusB) = !false by decide] at hdef
    rw [hdef]
    repeat (first | refine GD ?_ | refine NW fun _ => ?_)
    refine WL.step rfl (OP.call (pre := [rnd p ndT (restC last marked q ring j fv g) R, grp g f ch]) rfl rfl (hch false) PS rfl rfl ?_)
    rintro v _ ⟨M', hM, rfl⟩
    obtain ⟨E, rfl⟩ := putCh_g hM
    repeat (first | refine GD ?_ | refine NW fun _ => ?_)
    refine ret0n ⟨[rnd p ndT (restC last marked q ring j fv g) R, grp g f (putCh f ch (last + 1, block, !false))], ⟨rfl, rfl⟩, ?_⟩
    rw [List.append_assoc, List.append_assoc]
    exact Imp.trans (Imp.dropL E _) II
  · rw [if_neg (by rintro (h | h); exact hp h; exact hm h)] at hdef
    rw [hdef]
    have hp' : ¬ data = ⟨#[43]⟩ := hp
    have hm' : ¬ data = ⟨#[45]⟩ := hm
    repeat (first | refine GD ?_ | refine NW fun _ => ?_)
    exact ret0n ⟨[rnd p ndT (restC last marked q ring j fv g) R, grp g f ch], ⟨rfl, rfl⟩, II⟩
end Go.Proofs.YtleajkobmhhacaaGreatDoor
/- Contracts of functions of the given program, and plain laws on what they compute: parts of the proofs of laws. -/
namespace Go.Proofs.YtleajkobmhhacaaGreatDoor
open Go Go.GL

inductive Inc : List Ch → Prop
  | nil : Inc []
  | snoc {ch : List Ch} {c : Ch} : Inc ch → lastM ch < c.1 → Inc (ch ++ [c])
theorem Inc.srt {ch : List Ch} (h : Inc ch) : Srt ch := by
  induction h with
  | nil => intro x hx; cases hx
  | snoc _ hl ih =>
    intro x hx
    rw [lastM_snoc]
    rcases List.mem_append.1 hx with hx | hx
    · have := ih x hx; omega
    · rw [List.mem_singleton.1 hx]; exact Int.le_refl _
theorem inc_put {f : List Bool} {ch : List Ch} {c : Ch} (h : Inc ch) : Inc (putCh f ch c) := by
  rcases putCh_cases f ch c with ⟨h1, h2⟩ | ⟨_, h2⟩
  · rw [h2]; exact .snoc h (put_none h1).2.1
  · rw [h2]; exact h
/-- does a volume belong at a marker? each change in turn -/
def hasQ (f : List Bool) (ch : List Ch) (v m : Int) : Bool := ch.foldl (fun ok c => if c.2.1 = v ∧ c.1 ≤ m then !c.2.2 else ok) (f.getD v.toNat false)
theorem hasQ_snoc (f : List Bool) (ch : List Ch) (c : Ch) (v m : Int) : hasQ f (ch ++ [c]) v m = if c.2.1 = v ∧ c.1 ≤ m then !c.2.2 else hasQ f ch v m := by
  unfold hasQ
  rw [List.foldl_append]
  rfl
theorem get_set (s : List Bool) (i j : Nat) (x : Bool) (hi : i < s.length) : (s.set i x).getD j false = if i = j then x else s.getD j false := by
  by_cases h : i = j
  · subst h; simp [List.getD, hi]
  · simp [List.getD, h]
theorem hasQ_at {f : List Bool} {ch : List Ch} (hi : Inc ch) (hv : Vols ch) (hf : f.length = 4) {v m : Int} (hv0 : 0 ≤ v ∧ v < 4) : hasQ f ch v m = (atM m f ch).getD v.toNat false := by
  induction hi with
  | nil => rfl
  | @snoc ch c h1 h2 ih =>
    have ih := ih (fun x hx => hv x (List.mem_append_left _ hx))
    have hc := hv c (List.mem_append_right _ (List.mem_singleton.2 rfl))
    rw [hasQ_snoc]
    by_cases hm : c.1 ≤ m
    · rw [atM_high (Inc.snoc h1 h2).srt (by rw [lastM_snoc]; exact hm), after_snoc]
      unfold step
      rw [get_set _ _ _ _ (by rw [after_length, hf]; omega)]
      rw [atM_high h1.srt (by omega)] at ih
      by_cases hvv : c.2.1 = v
      · rw [if_pos ⟨hvv, hm⟩, if_pos (by rw [hvv])]
      · rw [if_neg (fun h => hvv h.1), if_neg (by omega), ih]
    · rw [if_neg (fun h => hm h.2), ih, atM_low (.inl (by omega))]
/-- the volumes at a marker, one by one -/
def listQ (f : List Bool) (ch : List Ch) (m : Int) (k : Nat) : List Int := ((List.range k).filter (fun (i : Nat) => hasQ f ch (i : Int) m)).map Int.ofNat
theorem listQ_succ (f : List Bool) (ch : List Ch) (m : Int) (k : Nat) : listQ f ch m (k + 1) = if hasQ f ch (k : Int) m = true then listQ f ch m k ++ [(k : Int)] else listQ f ch m k := by
  unfold listQ
  rw [List.range_succ, List.filter_append, List.map_append]
  rw [List.filter_cons, List.filter_nil]
  split <;> simp
theorem listQ_at {f : List Bool} {ch : List Ch} (hi : Inc ch) (hv : Vols ch) (hf : f.length = 4) (m : Int) : listQ f ch m 4 = listM (atM m f ch) := by
  unfold listQ listM
  rw [atM_length, hf]
  congr 1
  apply List.filter_congr
  intro i hi4
  have hi4 := List.mem_range.1 hi4
  rw [hasQ_at hi hv hf ⟨by omega, by omega⟩]
  rfl
def bI (b : Bool) : Int := bif b then 1 else 0
end Go.Proofs.YtleajkobmhhacaaGreatDoor
/- Contracts of functions of the given program, and plain laws on what they compute: parts of the proofs of laws. -/

namespace Go.Proofs.YtleajkobmhhacaaGreatDoor
open Go Go.GL

theorem ba_app (l m : List UInt8) : ba l ++ ba m = ba (l ++ m) := by
  apply ByteArray.ext
  simp [ba]
theorem ba_appD (l : List UInt8) (s : ByteArray) : ba l ++ s = ba (l ++ s.data.toList) := by rw [← ba_app, ba_data]
/-- one bit of the check, bit by bit -/
def bitS (c : W32) : W32 := (c >>> 1) ^^^ (bif c.getLsbD 0 then 2197175160#32 else 0#32)
theorem bitS_xor (a b : W32) : bitS (a ^^^ b) = bitS a ^^^ bitS b := by
  unfold bitS
  rw [BitVec.ushiftRight_xor_distrib, BitVec.getLsbD_xor]
  generalize a >>> 1 = x
  generalize b >>> 1 = y
  cases a.getLsbD 0 <;> cases b.getLsbD 0
  · simp
  · simp only [Bool.false_bne, cond_true, cond_false, BitVec.xor_zero]; ac_rfl
  · simp only [Bool.bne_false, cond_true, cond_false, BitVec.xor_zero]; ac_rfl
  · show x ^^^ y ^^^ 0#32 = _
    rw [BitVec.xor_zero]
    show x ^^^ y = x ^^^ 2197175160#32 ^^^ (y ^^^ 2197175160#32)
    rw [show x ^^^ 2197175160#32 ^^^ (y ^^^ 2197175160#32) = x ^^^ y ^^^ (2197175160#32 ^^^ 2197175160#32) by ac_rfl, BitVec.xor_self, BitVec.xor_zero]
theorem bitS_even (c : W32) (h : c.getLsbD 0 = false) : bitS c = c >>> 1 := by unfold bitS; rw [h]; simp
def bits4 (c : W32) : W32 := bitS (bitS (bitS (bitS c)))
theorem bits4_xor (a b : W32) : bits4 (a ^^^ b) = bits4 a ^^^ bits4 b := by unfold bits4; simp only [bitS_xor]
theorem low_shr (c : W32) (n k : Nat) (h : c.getLsbD (n + k) = false) : (c >>> n).getLsbD k = false := by rw [BitVec.getLsbD_ushiftRight]; exact h
theorem bits4_hi (c : W32) (h : ∀ i, i < 4 → c.getLsbD i = false) : bits4 c = c >>> 4 := by
  unfold bits4
  rw [bitS_even c (h 0 (by decide)), bitS_even (c >>> 1) (low_shr c 1 0 (h 1 (by decide))), ← BitVec.shiftRight_add, bitS_even (c >>> (1 + 1)) (low_shr c 2 0 (h 2 (by decide))), ← BitVec.shiftRight_add,
    bitS_even (c >>> (1 + 1 + 1)) (low_shr c 3 0 (h 3 (by decide))), ← BitVec.shiftRight_add]
set_option maxRecDepth 10000 in
theorem bits4_low : ∀ k : Fin 16, bits4 (BitVec.ofNat 32 k.val) = tbl.getD k.val 0 := by decide
theorem low4 : ∀ i, i < 32 → (15#32 : W32).getLsbD i = decide (i < 4) := by decide
theorem half_bits (c : W32) : half c = bits4 c := by
  have e : c = (c &&& ~~~15#32) ^^^ (c &&& 15#32) := by
    apply BitVec.eq_of_getLsbD_eq
    intro i hi
    simp only [BitVec.getLsbD_xor, BitVec.getLsbD_and, BitVec.getLsbD_not, hi, low4 i hi]
    cases c.getLsbD i <;> cases decide (i < 4) <;> rfl
  have hlow : (c &&& 15#32).toNat < 16 := by rw [BitVec.toNat_and]; exact Nat.lt_of_le_of_lt Nat.and_le_right (by decide)
  have e1 : bits4 (c &&& 15#32) = tbl.getD (c &&& 15#32).toNat 0 := by
    have := bits4_low ⟨(c &&& 15#32).toNat, hlow⟩
    simp only [BitVec.ofNat_toNat, BitVec.setWidth_eq] at this
    exact this
  have e2 : bits4 (c &&& ~~~15#32) = c >>> 4 := by
    rw [bits4_hi]
    · apply BitVec.eq_of_getLsbD_eq
      intro i hi
      simp only [BitVec.getLsbD_ushiftRight, BitVec.getLsbD_and, BitVec.getLsbD_not]
      by_cases h : 4 + i < 32
      · rw [low4 (4 + i) h, decide_eq_false (show ¬ 4 + i < 4 by omega), decide_eq_true h]
        simp
      · rw [BitVec.getLsbD_of_ge _ _ (show 32 ≤ 4 + i by omega)]
        simp
    · intro i hi
      simp only [BitVec.getLsbD_and, BitVec.getLsbD_not, low4 i (by omega)]
      simp [hi]
  conv => rhs; rw [e, bits4_xor, e1, e2]
  rfl
/-- so many bits of the check -/
def bitN : Nat → W32 → W32
  | 0, c => c
  | n + 1, c => bitS (bitN n c)
theorem bit8 (c : W32) : bitN 8 c = half (half c) := by rw [half_bits, half_bits]; rfl
theorem bitS_int (c : W32) : ((bitS c).toNat : Int) = if (c.toNat : Int) % 2 = 1 then bitsV .xor .u32 ((c.toNat : Int) / 2) 2197175160 else (c.toNat : Int) / 2 := by
  have h1 : (c.toNat : Int) / (2 : Int) = ((c >>> 1).toNat : Int) := by rw [BitVec.toNat_ushiftRight, Nat.shiftRight_eq_div_pow]; omega
  have h2 := xor_u32 (c >>> 1) 2197175160#32
  rw [show (((2197175160#32 : W32).toNat : Nat) : Int) = 2197175160 from rfl] at h2
  rw [h1, h2]
  have h3 : c.getLsbD 0 = decide (c.toNat % 2 = 1) := by rw [← BitVec.testBit_toNat, Nat.testBit_zero]
  unfold bitS
  rw [h3]
  by_cases h : c.toNat % 2 = 1
  · rw [if_pos (by omega), decide_eq_true h]; rfl
  · rw [if_neg (by omega), decide_eq_false h]; simp
theorem byteAt_ba (l : List UInt8) (k : Nat) (h : k < l.length) : byteAt (ba l) k = (l[k].toNat : Int) := by
  unfold byteAt ba
  simp [h]

set_option maxHeartbeats 2000000 in
set_option maxRecDepth 10000 in
theorem qof_ro (l : List UInt8) (hs : l.length < 1000000) : RO G 243 [.string (ba l)] (fun _ => True) (u32V (crc l)) := by
  refine RO.enter Tryz.func243 rfl (by decide) rfl Tryz.ntmps243 rfl (fun A hu hA => ?_) (fun _ _ _ h => h)
  have hsz := ba_size l
  repeat (first | refine GO ?_ | refine NW fun _ => ?_)
  refine WC.loop (σ := Nat) (fun k => k ≤ l.length)
    (fun k => [(0, .val (.string (ba l))), (3, .val (.int .u32 ((crcF (BitVec.allOnes 32) (l.take k)).toNat : Int))), (4, .val (.int .i64 k))])
    (fun k => [A]) (fun k => l.length - k) 0 (Nat.zero_le _) ⟨rfl, rfl, rfl, trivial⟩ (Imp.refl _) ?_
  rintro k hk
  by_cases hlt : k < l.length
  rotate_left
  · have : l.take k = l := List.take_of_length_le (by omega)
    rw [this]
    have hn : (4294967295 : Int) - ((crcF (BitVec.allOnes 32) l).toNat : Int) = ((crc l).toNat : Int) := by
      unfold crc
      rw [BitVec.toNat_not]
      have := (crcF (BitVec.allOnes 32) l).isLt
      omega
    have hlt32 := (crcF (BitVec.allOnes 32) l).isLt
    generalize crcF (BitVec.allOnes 32) l = c at *
    repeat (first | refine GD ?_ | refine NW fun _ => ?_)
    rw [hn]
    exact ret1 rfl ⟨rfl, MM⟩
  have hsn : crcF (BitVec.allOnes 32) (l.take (k + 1)) = crcStep (crcF (BitVec.allOnes 32) (l.take k)) l[k] := by
    unfold crcF
    rw [List.take_succ_eq_append_getElem hlt, List.foldl_append]
    rfl
  have hby := byteAt_ba l k hlt
  generalize l[k] = x at *
  have hx8 : x.toNat < 256 := x.toNat_lt
  generalize crcF (BitVec.allOnes 32) (l.take k) = c at *
  have hby0 : 0 ≤ byteAt (ba l) k := by omega
  have hby1 : byteAt (ba l) k < 256 := by omega
  repeat (first | refine GD ?_ | refine NW fun _ => ?_)
  have hx := xor_u32 c (BitVec.ofNat 32 x.toNat)
  have hb : ((BitVec.ofNat 32 x.toNat).toNat : Int) = x.toNat := by rw [BitVec.toNat_ofNat]; omega
  rw [hb] at hx
  rw [hby, hx]
  refine WC.loop (σ := Nat) (fun j => j ≤ 8)
    (fun j => [(0, .val (.string (ba l))), (3, .val (.int .u32 ((bitN j (c ^^^ BitVec.ofNat 32 x.toNat)).toNat : Int))), (4, .val (.int .i64 k)), (5, .val (.int .i64 j))])
    (fun _ => [A]) (fun j => 8 - j) 0 (Nat.zero_le _) ⟨rfl, rfl, rfl, rfl, trivial⟩ (Imp.refl _) ?_
  rintro j hj
  by_cases hlt8 : j < 8
  rotate_left
  · have hj8 : j = 8 := by omega
    subst hj8
    rw [bit8]
    repeat (first | refine GD ?_ | refine NW fun _ => ?_)
    exact ⟨k + 1, by omega, by omega, ⟨rfl, by rw [hsn]; rfl, rfl, trivial⟩, Imp.refl _⟩
  have hbi := bitS_int (bitN j (c ^^^ BitVec.ofNat 32 x.toNat))
  have hbn : bitN (j + 1) (c ^^^ BitVec.ofNat 32 x.toNat) = bitS (bitN j (c ^^^ BitVec.ofNat 32 x.toNat)) := rfl
  rw [← hbn] at hbi
  have hlt32 := (bitN j (c ^^^ BitVec.ofNat 32 x.toNat)).isLt
  generalize bitN j (c ^^^ BitVec.ofNat 32 x.toNat) = d at *
  by_cases hodd : (d.toNat : Int) % 2 = 1
  · rw [if_pos hodd] at hbi
    repeat (first | refine GD ?_ | refine NW fun _ => ?_)
    exact ⟨j + 1, by omega, by omega, ⟨rfl, by rw [hbi]; rfl, rfl, rfl, trivial⟩, Imp.refl _⟩
  · rw [if_neg hodd] at hbi
    repeat (first | refine GD ?_ | refine NW fun _ => ?_)
    exact ⟨j + 1, by omega, by omega, ⟨rfl, by rw [hbi]; rfl, rfl, rfl, trivial⟩, Imp.refl _⟩
set_option maxHeartbeats 1000000 in
set_option maxRecDepth 10000 in
theorem qseal_ro (l : List UInt8) (hs : l.length < 100000) : RO G 227 [.string (ba l)] (fun _ => True) (.string (ba (l ++ tailM l))) := by
  refine RO.enter Tryz.func227 rfl (by decide) rfl Tryz.ntmps227 rfl (fun A hu hA => ?_) (fun _ _ _ h => h)
  have hsz := ba_size l
  repeat (first | refine GO ?_ | refine NW fun _ => ?_)
  refine WL.step rfl (OP.callRO rfl rfl (qof_ro l (by omega)) (fun _ _ => trivial) rfl rfl ?_)
  have hlt32 := (crc l).isLt
  unfold tailM
  generalize crc l = c at *
  unfold u32V
  have b0 : Value.int .u8 ((c.toNat : Int) % 256) = byteV (UInt8.ofNat (c.toNat % 256)) := by
    unfold byteV; congr 1; rw [UInt8.toNat_ofNat']; omega
  have b1 : Value.int .u8 ((c.toNat : Int) / 256 % 256) = byteV (UInt8.ofNat ((c >>> 8).toNat % 256)) := by
    unfold byteV; congr 1; rw [UInt8.toNat_ofNat', BitVec.toNat_ushiftRight, Nat.shiftRight_eq_div_pow]; omega
  have b2 : Value.int .u8 ((c.toNat : Int) / 65536 % 256) = byteV (UInt8.ofNat ((c >>> 16).toNat % 256)) := by
    unfold byteV; congr 1; rw [UInt8.toNat_ofNat', BitVec.toNat_ushiftRight, Nat.shiftRight_eq_div_pow]; omega
  have b3 : Value.int .u8 ((c.toNat : Int) / 16777216) = byteV (UInt8.ofNat ((c >>> 24).toNat % 256)) := by
    unfold byteV; congr 1; rw [UInt8.toNat_ofNat', BitVec.toNat_ushiftRight, Nat.shiftRight_eq_div_pow]; omega
  repeat (first | refine GD ?_ | refine NW fun _ => ?_)
  rw [b0, b1, b2, b3]
  refine WL.step rfl (OP.toStr (sv := ba (le4 c)) rfl rfl rfl rfl rfl rfl rfl rfl (by rw [strCells_ba]; exact Ent.own (T := 5) MM) rfl rfl ?_)
  have hs4 : (ba (le4 c)).size = 4 := rfl
  repeat (first | refine GD ?_ | refine NW fun _ => ?_)
  rw [ba_app]
  exact ret1 rfl ⟨rfl, MM⟩
set_option maxHeartbeats 1000000 in
set_option maxRecDepth 10000 in
theorem qsector_ro (l : List UInt8) (hs : l.length ≤ 60) : RO G 195 [.string (ba l)] (fun _ => True) (.tuple #[.string (ba (sectorM l)), .bool true]) := by
  refine RO.enter Tryz.func195 rfl (by decide) rfl Tryz.ntmps195 rfl (fun A hu hA => ?_) (fun _ _ _ h => h)
  have hsz := ba_size l
  repeat (first | refine GD ?_ | refine NW fun _ => ?_)
  refine WC.loop (σ := Nat) (fun k => l.length + k ≤ 60)
    (fun k => [(0, .val (.string (ba (l ++ List.replicate k 0))))])
    (fun _ => [A]) (fun k => 60 - k) 0 (by omega) ⟨by simp; rfl, trivial⟩ (Imp.refl _) ?_
  rintro k hk
  have hsz := ba_size (l ++ List.replicate k 0)
  rw [List.length_append, List.length_replicate] at hsz
  by_cases h60 : l.length + k < 60
  · have hz1 : (⟨#[0]⟩ : ByteArray).size = 1 := rfl
    repeat (first | refine GD ?_ | refine NW fun _ => ?_)
    refine ⟨k + 1, by omega, by omega, ⟨?_, trivial⟩, Imp.refl _⟩
    rw [List.replicate_succ', ← List.append_assoc, ← ba_app]
    rfl
  · have hp : l ++ List.replicate k 0 = padM l := by unfold padM; rw [show 60 - l.length = k by omega]
    rw [hp] at hsz ⊢
    have hpl := padM_len hs
    repeat (first | refine GD ?_ | refine NW fun _ => ?_)
    refine WL.step rfl (OP.callRO rfl rfl (qseal_ro (padM l) (by omega)) (fun _ _ => trivial) rfl rfl ?_)
    repeat (first | refine GD ?_ | refine NW fun _ => ?_)
    exact ret2 rfl rfl ⟨rfl, MM⟩
end Go.Proofs.YtleajkobmhhacaaGreatDoor
/- Contracts of functions of the given program, and plain laws on what they compute: parts of the proofs of laws. -/

namespace Go.Proofs.YtleajkobmhhacaaGreatDoor
open Go Go.GL

set_option maxHeartbeats 1000000 in
set_option maxRecDepth 10000 in
theorem qnumber_ro (x : Int) : RO G 196 [.int .i64 x] (fun _ => True) (.string (ba (numB (clampN x)))) := by
  refine RO.enter Tryz.func196 rfl (by decide) rfl Tryz.ntmps196 rfl (fun A hu hA => ?_) (fun _ _ _ h => h)
  repeat (first | refine GO ?_ | refine NW fun _ => ?_)
  have hcl : (if (0 : Int) < (if (1152921504606846975 : Int) < x then (1152921504606846975 : Int) else x) then (if (1152921504606846975 : Int) < x then (1152921504606846975 : Int) else x) else 0) = (clampN x : Int) := by
    unfold clampN widest
    split <;> split <;> omega
  rw [hcl]
  have hc1 := clamp_le x
  unfold widest at hc1
  have h9 := numB_nine x
  generalize clampN x = y0 at *
  refine WC.loop (σ := List UInt8 × Nat) (fun s => s.1 ++ numB s.2 = numB y0 ∧ s.2 ≤ y0)
    (fun s => [(0, .val (.int .i64 s.2)), (3, .val (.string (ba s.1)))])
    (fun _ => [A]) (fun s => s.2) ([], y0) ⟨rfl, Nat.le_refl _⟩ ⟨rfl, rfl, trivial⟩ II ?_
  rintro ⟨l1, y⟩ ⟨hl1, hy⟩
  dsimp only at hl1 hy ⊢
  have hlen1 : l1.length + (numB y).length = (numB y0).length := by rw [← hl1, List.length_append]
  have hsz := ba_size l1
  by_cases hge : 128 ≤ y
  · rw [numB_ge (by omega)] at hl1
    have hb : Value.int .u8 ((y : Int) % 128 + 128) = byteV (UInt8.ofNat (y % 128 + 128)) := by
      unfold byteV; congr 1; rw [UInt8.toNat_ofNat']; omega
    have hd : (y : Int) / 128 = ((y / 128 : Nat) : Int) := by omega
    repeat (first | refine GD ?_ | refine NW fun _ => ?_)
    rw [hb]
    refine WL.step rfl (OP.toStr (sv := ba [UInt8.ofNat (y % 128 + 128)]) rfl rfl rfl rfl rfl rfl rfl rfl (by rw [strCells_ba]; exact Ent.own (T := 5) MM) rfl rfl ?_)
    have hs1 : (ba [UInt8.ofNat (y % 128 + 128)]).size = 1 := rfl
    repeat (first | refine GD ?_ | refine NW fun _ => ?_)
    rw [ba_app, hd]
    exact ⟨(l1 ++ [UInt8.ofNat (y % 128 + 128)], y / 128), ⟨by simp only []; rw [List.append_assoc]; exact hl1, by dsimp only; omega⟩, by dsimp only; omega, ⟨rfl, rfl, trivial⟩, II⟩
  · rw [numB_lt (by omega)] at hl1
    have hb : Value.int .u8 (y : Int) = byteV (UInt8.ofNat y) := by
      unfold byteV; congr 1; rw [UInt8.toNat_ofNat']; omega
    repeat (first | refine GD ?_ | refine NW fun _ => ?_)
    rw [hb]
    refine WL.step rfl (OP.toStr (sv := ba [UInt8.ofNat y]) rfl rfl rfl rfl rfl rfl rfl rfl (by rw [strCells_ba]; exact Ent.own (T := 5) MM) rfl rfl ?_)
    have hs1 : (ba [UInt8.ofNat y]).size = 1 := rfl
    repeat (first | refine GD ?_ | refine NW fun _ => ?_)
    rw [ba_app, hl1]
    exact ret1 rfl ⟨rfl, MM⟩
set_option maxRecDepth 10000 in
theorem qtext_ro (s : ByteArray) (hs : s.size < 1000000) : RO G 229 [.string s] (fun _ => True) (.string (ba (textB s))) := by
  refine RO.enter Tryz.func229 rfl (by decide) rfl Tryz.ntmps229 rfl (fun A hu hA => ?_) (fun _ _ _ h => h)
  repeat (first | refine GO ?_ | refine NW fun _ => ?_)
  refine WL.step rfl (OP.callRO rfl rfl (qnumber_ro s.size) (fun _ _ => trivial) rfl rfl ?_)
  have h9 := numB_nine s.size
  rw [clamp_nat s.size (by unfold widest; omega)] at h9 ⊢
  have hsz := ba_size (numB s.size)
  repeat (first | refine GD ?_ | refine NW fun _ => ?_)
  rw [ba_appD]
  exact ret1 rfl ⟨rfl, MM⟩
set_option maxHeartbeats 4000000 in
set_option maxRecDepth 10000 in
theorem qright_ro (r : Rec) (hsz : r.2.2.2.1.size < 1000000) : RO G 209 [.agg (encR r).toArray] (fun _ => True) (.bool (decide (RightR r))) := by
  refine RO.enter Tryz.func209 rfl (by decide) rfl Tryz.ntmps209 rfl (fun A hu hA => ?_) (fun _ _ _ h => h)
  obtain ⟨seq, kind, block, data, num⟩ := r
  unfold RightR widest
  dsimp only at hsz ⊢
  rw [show encR (seq, kind, block, data, num) = [.int .i64 seq, .int .i64 kind, .int .i64 block, .string data, .int .i64 num] from rfl]
  by_cases hs1 : seq < 1
  · repeat (first | refine GD ?_ | refine NW fun _ => ?_)
    exact ret1 rfl ⟨congrArg Value.bool (decide_eq_false (fun h => by have := h.1; omega)).symm, MM⟩
  by_cases hs2 : 1152921504606846975 < seq
  · repeat (first | refine GD ?_ | refine NW fun _ => ?_)
    exact ret1 rfl ⟨congrArg Value.bool (decide_eq_false (fun h => by have := h.1; omega)).symm, MM⟩
  have hs3 : (1 ≤ seq ∧ seq ≤ 1152921504606846975) := by omega
  by_cases h1 : kind = 1
  · by_cases hb0 : 0 ≤ block
    rotate_left
    · repeat (first | refine GD ?_ | refine NW fun _ => ?_)
      exact ret1 rfl ⟨by first | (simp; omega) | (simp [*]; omega) | simp [*], MM⟩
    by_cases hb8 : block ≤ 7
    rotate_left
    · repeat (first | refine GD ?_ | refine NW fun _ => ?_)
      exact ret1 rfl ⟨by first | (simp; omega) | (simp [*]; omega) | simp [*], MM⟩
    have hb8' : block < 8 := by omega
    by_cases hs16 : data.size ≤ 16
    rotate_left
    · repeat (first | refine GD ?_ | refine NW fun _ => ?_)
      exact ret1 rfl ⟨by first | (simp; omega) | (simp [*]; omega) | simp [*], MM⟩
    by_cases hn0 : num = 0
    · repeat (first | refine GD ?_ | refine NW fun _ => ?_)
      exact ret1 rfl ⟨by first | (simp; omega) | (simp [*]; omega) | simp [*], MM⟩
    · repeat (first | refine GD ?_ | refine NW fun _ => ?_)
      exact ret1 rfl ⟨by first | (simp; omega) | (simp [*]; omega) | simp [*], MM⟩
  · by_cases h2 : kind = 2
    rotate_left
    · repeat (first | refine GD ?_ | refine NW fun _ => ?_)
      exact ret1 rfl ⟨by first | (simp; omega) | (simp [*]; omega) | simp [*], MM⟩
    by_cases hb : block = 0
    rotate_left
    · repeat (first | refine GD ?_ | refine NW fun _ => ?_)
      exact ret1 rfl ⟨by first | (simp; omega) | (simp [*]; omega) | simp [*], MM⟩
    by_cases hd : data = ⟨#[]⟩
    rotate_left
    · repeat (first | refine GD ?_ | refine NW fun _ => ?_)
      exact ret1 rfl ⟨by first | (simp; omega) | (simp [*]; omega) | simp [*], MM⟩
    by_cases hn1 : 1 ≤ num
    rotate_left
    · repeat (first | refine GD ?_ | refine NW fun _ => ?_)
      exact ret1 rfl ⟨by first | (simp; omega) | (simp [*]; omega) | simp [*], MM⟩
    by_cases hn2 : num ≤ 1152921504606846975
    · repeat (first | refine GD ?_ | refine NW fun _ => ?_)
      exact ret1 rfl ⟨by first | (simp; omega) | (simp [*]; omega) | simp [*], MM⟩
    · repeat (first | refine GD ?_ | refine NW fun _ => ?_)
      exact ret1 rfl ⟨by first | (simp; omega) | (simp [*]; omega) | simp [*], MM⟩
theorem encR_eq (seq kind block num : Int) (data : ByteArray) : encR (seq, kind, block, data, num) = [.int .i64 seq, .int .i64 kind, .int .i64 block, .string data, .int .i64 num] := rfl
set_option maxHeartbeats 4000000 in
set_option maxRecDepth 10000 in
theorem qbytes_ro (gen : Int) (r : Rec) (hr : RightR r) : RO G 210 [.int .i64 gen, .agg (encR r).toArray] (fun _ => True) (.string (ba (sectorM (bodyM gen r)))) := by
  refine RO.enter Tryz.func210 rfl (by decide) rfl Tryz.ntmps210 rfl (fun A hu hA => ?_) (fun _ _ _ h => h)
  have hbl := bodyM_len (gen := gen) hr
  obtain ⟨seq, kind, block, data, num⟩ := r
  rw [encR_eq]
  have hg9 := numB_nine gen
  have hs9 := numB_nine seq
  have hk9 := numB_nine kind
  have hgz := ba_size (numB (clampN gen))
  have hsz := ba_size (numB (clampN seq))
  have hkz := ba_size (numB (clampN kind))
  repeat (first | refine GO ?_ | refine NW fun _ => ?_)
  rename_i q
  refine RD 10 11 (_) ?_
  refine WW 0 ?_
  refine WW 2 ?_; refine WW 3 ?_
  refine WW 6 ?_; refine WW 7 ?_
  refine WH.only 1 rfl rfl (by kernel_rfl) rfl (OP.callRO rfl rfl (qnumber_ro gen) (fun _ _ => trivial) rfl rfl ⟨fun _ => II, ?_⟩)
  refine WH.only 4 rfl rfl (by kernel_rfl) rfl (OP.callRO rfl rfl (qnumber_ro seq) (fun _ _ => trivial) rfl rfl ⟨fun _ => II, ?_⟩)
  refine WW 5 ?_
  rw [ba_app]
  generalize hp1 : numB (clampN gen) ++ numB (clampN seq) = p1
  have hp1l : p1.length ≤ 18 := by rw [← hp1, List.length_append]; omega
  have hp1z := ba_size p1
  refine WH.only 8 rfl rfl (by kernel_rfl) rfl (OP.callRO rfl rfl (qnumber_ro kind) (fun _ _ => trivial) rfl rfl ⟨fun _ => II, ?_⟩)
  refine WW 9 ?_
  rw [ba_app]
  refine WW 10 ?_
  refine DN ?_
  generalize hp2 : p1 ++ numB (clampN kind) = p2
  have hp2l : p2.length ≤ 27 := by rw [← hp2, List.length_append]; omega
  have hp2z := ba_size p2
  by_cases h1 : kind = 1
  · have hb : data.size ≤ 16 := by
      have h2 := hr.2
      dsimp only at h2
      rcases h2 with h2 | h2
      · omega
      · exact h2.2.2.1
    have hb9 := numB_nine block
    have hbz := ba_size (numB (clampN block))
    have htz := ba_size (textB data)
    have htl : (textB data).length ≤ 26 := by
      have := numB_nine data.size
      rw [clamp_nat data.size (by unfold widest; omega)] at this
      have h7 : data.data.toList.length = data.size := Array.length_toList
      unfold textB
      rw [List.length_append]
      omega
    repeat (first | refine GD ?_ | refine NW fun _ => ?_)
    refine RD 9 10 (_) ?_
    refine WW 0 ?_; refine WW 1 ?_; refine WW 2 ?_
    refine WW 5 ?_; refine WW 6 ?_
    refine WH.only 3 rfl rfl (by kernel_rfl) rfl (OP.callRO rfl rfl (qnumber_ro block) (fun _ _ => trivial) rfl rfl ⟨fun _ => II, ?_⟩)
    refine WW 4 ?_
    rw [ba_app]
    generalize hp3 : p2 ++ numB (clampN block) = p3
    have hp3l : p3.length ≤ 36 := by rw [← hp3, List.length_append]; omega
    have hp3z := ba_size p3
    refine WH.only 7 rfl rfl (by kernel_rfl) rfl (OP.callRO rfl rfl (qtext_ro data (by omega)) (fun _ _ => trivial) rfl rfl ⟨fun _ => II, ?_⟩)
    refine WW 8 ?_
    rw [ba_app]
    refine WW 9 ?_
    refine DN ?_
    have hbody : p3 ++ textB data = bodyM gen (seq, kind, block, data, num) := by
      unfold bodyM
      dsimp only
      rw [if_pos h1, ← hp3, ← hp2, ← hp1]
      simp only [List.append_assoc]
    rw [hbody]
    repeat (first | refine GD ?_ | refine NW fun _ => ?_)
    refine WL.step rfl (OP.callRO rfl rfl (qsector_ro _ hbl) (fun _ _ => trivial) rfl rfl ?_)
    repeat (first | refine GD ?_ | refine NW fun _ => ?_)
    exact ret1 rfl ⟨rfl, MM⟩
  · have hn9 := numB_nine num
    have hnz := ba_size (numB (clampN num))
    repeat (first | refine GD ?_ | refine NW fun _ => ?_)
    refine WL.step rfl (OP.callRO rfl rfl (qnumber_ro num) (fun _ _ => trivial) rfl rfl ?_)
    repeat (first | refine GD ?_ | refine NW fun _ => ?_)
    rw [ba_app]
    have hbody : p2 ++ numB (clampN num) = bodyM gen (seq, kind, block, data, num) := by
      unfold bodyM
      dsimp only
      rw [if_neg h1, ← hp2, ← hp1]
    rw [hbody]
    refine WL.step rfl (OP.callRO rfl rfl (qsector_ro _ hbl) (fun _ _ => trivial) rfl rfl ?_)
    repeat (first | refine GD ?_ | refine NW fun _ => ?_)
    exact ret1 rfl ⟨rfl, MM⟩
end Go.Proofs.YtleajkobmhhacaaGreatDoor
/- Contracts of functions of the given program, and plain laws on what they compute: parts of the proofs of laws. -/

namespace Go.Proofs.YtleajkobmhhacaaGreatDoor
open Go Go.GL

def bV (b : Bool) : Value := .int .i64 (bI b)
def ints4 (f : List Bool) : List Value := f.map bV
def refR (p : Nat) (a : Option Addr) (cap : Nat) (f : List Bool) (ch : List Ch) : Assn := fun h => cellsAt p 0 (ints4 f ++ [.slice a ch.length cap]) h ∧ readS a ch.length 3 (encL ch) h
theorem up_refR (p : Nat) (a : Option Addr) (cap : Nat) (f : List Bool) (ch : List Ch) : Up (refR p a cap f ch) := up_and (up_cellsAt _ _ _) (up_readS _ _ _ _)
def refL (p : Nat) (a : Option Addr) (n cap : Nat) (f : List Bool) (ch : List Ch) : List Assn := [blk p (ints4 f ++ [.slice a n cap]) 194, ownS a n cap 196 3 (encL ch)]
set_option maxRecDepth 10000 in
theorem qin_ro (v : Int) : RO G 149 [.int .i64 v] (fun _ => True) (.bool (decide (0 ≤ v ∧ v < 4))) := by
  refine RO.enter Tryz.func149 rfl (by decide) rfl Tryz.ntmps149 rfl (fun A _ hA => ?_) (fun _ _ _ h => h)
  by_cases h0 : 0 ≤ v
  · by_cases h3 : v ≤ 3
    · repeat (first | refine GD ?_ | refine NW fun _ => ?_)
      exact ret1 rfl ⟨congrArg Value.bool (decide_eq_true (⟨h0, by omega⟩ : 0 ≤ v ∧ v < 4)).symm, MM⟩
    · repeat (first | refine GD ?_ | refine NW fun _ => ?_)
      exact ret1 rfl ⟨congrArg Value.bool (decide_eq_false (fun h : 0 ≤ v ∧ v < 4 => by omega)).symm, MM⟩
  · repeat (first | refine GD ?_ | refine NW fun _ => ?_)
    exact ret1 rfl ⟨congrArg Value.bool (decide_eq_false (fun h : 0 ≤ v ∧ v < 4 => by omega)).symm, MM⟩
def QNewPost (l : List Int) (v : Value) (E : List Assn) : Prop :=
  match newM l [false, false, false, false] with
  | .ok f => ∃ p, v = .tuple #[.pointer (some ⟨p, 0, none⟩), .int .i64 0, .int .i64 0] ∧ E = [blk p (ints4 f ++ [.slice none 0 0]) 194]
  | .error (at_, c) => v = .tuple #[.pointer none, .int .i64 at_, .int .i64 c] ∧ E = []

set_option maxHeartbeats 4000000 in
set_option maxRecDepth 10000 in
theorem qnew_ok (a : Option Addr) (n c : Nat) (l : List Int) (hn : n < 1000000) : RT G 78 [.slice a n c] (readS a n 1 (l.map vI)) (QNewPost l) := by
  refine RT.enter Tryz.func78 rfl (by decide) rfl Tryz.ntmps78 rfl (fun A hu hA => ?_)
  have hM : ∀ {L}, A ∈ L → Ent L (readS a n 1 (l.map vI)) := fun m => Ent.mem m hu hA
  refine WC.fact (Ent.len (hM MM)) (fun hlen => ?_)
  have hlen : l.length = n := by simpa using hlen
  repeat (first | refine GO ?_ | refine NW fun _ => ?_)
  rename_i p
  refine WC.loop (σ := Nat × List Bool) (fun s => s.1 ≤ n ∧ s.2.length = 4 ∧ newM (l.drop s.1) s.2 = newM l [false, false, false, false])
    (fun s => [(0, .val (.slice a n c)), (5, .val (.pointer (some ⟨p, 0, none⟩))), (10, .val (.int .i64 n)), (11, .val (.int .i64 s.1))])
    (fun s => [blk p (ints4 s.2 ++ [.slice none 0 0]) 194, A]) (fun s => n - s.1) (0, [false, false, false, false]) ⟨Nat.zero_le _, rfl, rfl⟩ ⟨rfl, rfl, rfl, rfl, trivial⟩ (Imp.refl _) ?_
  rintro ⟨k, f⟩ ⟨hk, hf, hm⟩
  dsimp only at hk hf hm ⊢
  obtain ⟨f0, f1, f2, f3, rfl⟩ := four hf
  by_cases hb : k < n
  rotate_left
  · have hb : k = n := by omega
    subst hb
    repeat (first | refine GD ?_ | refine NW fun _ => ?_)
    refine ret3 rfl rfl rfl ⟨[_], ?_, II⟩
    unfold QNewPost
    rw [← hm, List.drop_eq_nil_of_le (by omega)]
    exact ⟨_, rfl, rfl⟩
  have hlk : k < l.length := by omega
  have hdrop : l.drop k = l[k] :: l.drop (k + 1) := List.drop_eq_getElem_cons hlk
  have hel : (l.map vI)[k * 1]? = some (.int .i64 l[k]) := by simp [vI, hlk]
  generalize l[k] = v at *
  rw [hdrop, newM_cons] at hm
  repeat (first | refine GD ?_ | refine NW fun _ => ?_)
  refine WL.fact (Ent.some (hM MM) (by omega)) ?_
  rintro ⟨b, off, rfl⟩
  repeat (first | refine GD ?_ | refine NW fun _ => ?_)
  refine WL.step rfl (OP.load1 (v := .int .i64 v) rfl rfl rfl rfl (Ent.elem (hM MM) rfl hel) rfl rfl ?_)
  repeat (first | refine GD ?_ | refine NW fun _ => ?_)
  refine WL.step rfl (OP.callRO rfl rfl (qin_ro _) (fun _ _ => trivial) rfl rfl ?_)
  by_cases h1 : 0 ≤ v ∧ v < 4
  rotate_left
  · rw [decide_eq_false h1]
    rw [if_neg h1] at hm
    repeat (first | refine GD ?_ | refine NW fun _ => ?_)
    refine RD 7 7 ([A]) ?_
    refine WW 0 ?_; refine WW 1 ?_; refine WW 2 ?_
    refine VL 3 (.int .i64 v) rfl rfl rfl rfl (.inl ⟨rfl, Ent.elem (i := k * 1) (hM MM) rfl hel⟩) ?_
    refine WW 4 ?_; refine WW 5 ?_; refine WW 6 ?_
    refine DN ?_
    repeat (first | refine GD ?_ | refine NW fun _ => ?_)
    refine ret3 rfl rfl rfl ⟨[], ?_, II⟩
    unfold QNewPost
    rw [← hm]
    exact ⟨rfl, rfl⟩
  rw [decide_eq_true h1]
  rw [if_pos h1] at hm
  obtain rfl | rfl | rfl | rfl : v = 0 ∨ v = 1 ∨ v = 2 ∨ v = 3 := by omega
  · repeat (first | refine GD ?_ | refine NW fun _ => ?_)
    refine RD 10 10 ([blk p (ints4 [f0, f1, f2, f3] ++ [.slice none 0 0]) 194, A]) ?_
    refine WW 0 ?_; refine WW 1 ?_; refine WW 2 ?_; refine WW 3 ?_
    refine VL 4 (.int .i64 0) rfl rfl rfl rfl (.inl ⟨rfl, Ent.elem (i := k * 1) (hM MM) rfl hel⟩) ?_
    refine WW 5 ?_; refine WW 6 ?_; refine WW 7 ?_; refine WW 8 ?_; refine WW 9 ?_
    refine DN ?_
    cases f0
    · replace hm := hm.symm.trans (if_neg (by simp))
      repeat (first | refine GD ?_ | refine NW fun _ => ?_)
      refine RD 8 9 ([A]) ?_
      refine WW 0 ?_; refine WW 1 ?_; refine WW 2 ?_; refine WW 3 ?_
      refine VL 4 (.int .i64 0) rfl rfl rfl rfl (.inl ⟨rfl, Ent.elem (i := k * 1) (hM MM) rfl hel⟩) ?_
      refine WW 5 ?_; refine WW 6 ?_; refine WW 7 ?_
      refine WH.only 8 rfl rfl (by kernel_rfl) rfl (OP.store rfl rfl rfl rfl rfl rfl rfl UP rfl ⟨(fun h => nomatch h), ?_⟩)
      refine DN ?_
      repeat (first | refine GD ?_ | refine NW fun _ => ?_)
      exact ⟨(k + 1, _), ⟨by omega, rfl, hm.symm⟩, by dsimp only; omega, ⟨rfl, rfl, rfl, rfl, trivial⟩, Imp.refl _⟩
    · replace hm := hm.symm.trans (if_pos rfl)
      repeat (first | refine GD ?_ | refine NW fun _ => ?_)
      refine RD 7 7 ([A]) ?_
      refine WW 0 ?_; refine WW 1 ?_; refine WW 2 ?_
      refine VL 3 (.int .i64 0) rfl rfl rfl rfl (.inl ⟨rfl, Ent.elem (i := k * 1) (hM MM) rfl hel⟩) ?_
      refine WW 4 ?_; refine WW 5 ?_; refine WW 6 ?_
      refine DN ?_
      repeat (first | refine GD ?_ | refine NW fun _ => ?_)
      refine ret3 rfl rfl rfl ⟨[], ?_, II⟩
      unfold QNewPost
      rw [hm]
      exact ⟨rfl, rfl⟩
  · repeat (first | refine GD ?_ | refine NW fun _ => ?_)
    refine RD 10 10 ([blk p (ints4 [f0, f1, f2, f3] ++ [.slice none 0 0]) 194, A]) ?_
    refine WW 0 ?_; refine WW 1 ?_; refine WW 2 ?_; refine WW 3 ?_
    refine VL 4 (.int .i64 1) rfl rfl rfl rfl (.inl ⟨rfl, Ent.elem (i := k * 1) (hM MM) rfl hel⟩) ?_
    refine WW 5 ?_; refine WW 6 ?_; refine WW 7 ?_; refine WW 8 ?_; refine WW 9 ?_
    refine DN ?_
    cases f1
    · replace hm := hm.symm.trans (if_neg (by simp))
      repeat (first | refine GD ?_ | refine NW fun _ => ?_)
      refine RD 8 9 ([A]) ?_
      refine WW 0 ?_; refine WW 1 ?_; refine WW 2 ?_; refine WW 3 ?_
      refine VL 4 (.int .i64 1) rfl rfl rfl rfl (.inl ⟨rfl, Ent.elem (i := k * 1) (hM MM) rfl hel⟩) ?_
      refine WW 5 ?_; refine WW 6 ?_; refine WW 7 ?_
      refine WH.only 8 rfl rfl (by kernel_rfl) rfl (OP.store rfl rfl rfl rfl rfl rfl rfl UP rfl ⟨(fun h => nomatch h), ?_⟩)
      refine DN ?_
      repeat (first | refine GD ?_ | refine NW fun _ => ?_)
      exact ⟨(k + 1, _), ⟨by omega, rfl, hm.symm⟩, by dsimp only; omega, ⟨rfl, rfl, rfl, rfl, trivial⟩, Imp.refl _⟩
    · replace hm := hm.symm.trans (if_pos rfl)
      repeat (first | refine GD ?_ | refine NW fun _ => ?_)
      refine RD 7 7 ([A]) ?_
      refine WW 0 ?_; refine WW 1 ?_; refine WW 2 ?_
      refine VL 3 (.int .i64 1) rfl rfl rfl rfl (.inl ⟨rfl, Ent.elem (i := k * 1) (hM MM) rfl hel⟩) ?_
      refine WW 4 ?_; refine WW 5 ?_; refine WW 6 ?_
      refine DN ?_
      repeat (first | refine GD ?_ | refine NW fun _ => ?_)
      refine ret3 rfl rfl rfl ⟨[], ?_, II⟩
      unfold QNewPost
      rw [hm]
      exact ⟨rfl, rfl⟩
  · repeat (first | refine GD ?_ | refine NW fun _ => ?_)
    refine RD 10 10 ([blk p (ints4 [f0, f1, f2, f3] ++ [.slice none 0 0]) 194, A]) ?_
    refine WW 0 ?_; refine WW 1 ?_; refine WW 2 ?_; refine WW 3 ?_
    refine VL 4 (.int .i64 2) rfl rfl rfl rfl (.inl ⟨rfl, Ent.elem (i := k * 1) (hM MM) rfl hel⟩) ?_
    refine WW 5 ?_; refine WW 6 ?_; refine WW 7 ?_; refine WW 8 ?_; refine WW 9 ?_
    refine DN ?_
    cases f2
    · replace hm := hm.symm.trans (if_neg (by simp))
      repeat (first | refine GD ?_ | refine NW fun _ => ?_)
      refine RD 8 9 ([A]) ?_
      refine WW 0 ?_; refine WW 1 ?_; refine WW 2 ?_; refine WW 3 ?_
      refine VL 4 (.int .i64 2) rfl rfl rfl rfl (.inl ⟨rfl, Ent.elem (i := k * 1) (hM MM) rfl hel⟩) ?_
      refine WW 5 ?_; refine WW 6 ?_; refine WW 7 ?_
      refine WH.only 8 rfl rfl (by kernel_rfl) rfl (OP.store rfl rfl rfl rfl rfl rfl rfl UP rfl ⟨(fun h => nomatch h), ?_⟩)
      refine DN ?_
      repeat (first | refine GD ?_ | refine NW fun _ => ?_)
      exact ⟨(k + 1, _), ⟨by omega, rfl, hm.symm⟩, by dsimp only; omega, ⟨rfl, rfl, rfl, rfl, trivial⟩, Imp.refl _⟩
    · replace hm := hm.symm.trans (if_pos rfl)
      repeat (first | refine GD ?_ | refine NW fun _ => ?_)
      refine RD 7 7 ([A]) ?_
      refine WW 0 ?_; refine WW 1 ?_; refine WW 2 ?_
      refine VL 3 (.int .i64 2) rfl rfl rfl rfl (.inl ⟨rfl, Ent.elem (i := k * 1) (hM MM) rfl hel⟩) ?_
      refine WW 4 ?_; refine WW 5 ?_; refine WW 6 ?_
      refine DN ?_
      repeat (first | refine GD ?_ | refine NW fun _ => ?_)
      refine ret3 rfl rfl rfl ⟨[], ?_, II⟩
      unfold QNewPost
      rw [hm]
      exact ⟨rfl, rfl⟩
  · repeat (first | refine GD ?_ | refine NW fun _ => ?_)
    refine RD 10 10 ([blk p (ints4 [f0, f1, f2, f3] ++ [.slice none 0 0]) 194, A]) ?_
    refine WW 0 ?_; refine WW 1 ?_; refine WW 2 ?_; refine WW 3 ?_
    refine VL 4 (.int .i64 3) rfl rfl rfl rfl (.inl ⟨rfl, Ent.elem (i := k * 1) (hM MM) rfl hel⟩) ?_
    refine WW 5 ?_; refine WW 6 ?_; refine WW 7 ?_; refine WW 8 ?_; refine WW 9 ?_
    refine DN ?_
    cases f3
    · replace hm := hm.symm.trans (if_neg (by simp))
      repeat (first | refine GD ?_ | refine NW fun _ => ?_)
      refine RD 8 9 ([A]) ?_
      refine WW 0 ?_; refine WW 1 ?_; refine WW 2 ?_; refine WW 3 ?_
      refine VL 4 (.int .i64 3) rfl rfl rfl rfl (.inl ⟨rfl, Ent.elem (i := k * 1) (hM MM) rfl hel⟩) ?_
      refine WW 5 ?_; refine WW 6 ?_; refine WW 7 ?_
      refine WH.only 8 rfl rfl (by kernel_rfl) rfl (OP.store rfl rfl rfl rfl rfl rfl rfl UP rfl ⟨(fun h => nomatch h), ?_⟩)
      refine DN ?_
      repeat (first | refine GD ?_ | refine NW fun _ => ?_)
      exact ⟨(k + 1, _), ⟨by omega, rfl, hm.symm⟩, by dsimp only; omega, ⟨rfl, rfl, rfl, rfl, trivial⟩, Imp.refl _⟩
    · replace hm := hm.symm.trans (if_pos rfl)
      repeat (first | refine GD ?_ | refine NW fun _ => ?_)
      refine RD 7 7 ([A]) ?_
      refine WW 0 ?_; refine WW 1 ?_; refine WW 2 ?_
      refine VL 3 (.int .i64 3) rfl rfl rfl rfl (.inl ⟨rfl, Ent.elem (i := k * 1) (hM MM) rfl hel⟩) ?_
      refine WW 4 ?_; refine WW 5 ?_; refine WW 6 ?_
      refine DN ?_
      repeat (first | refine GD ?_ | refine NW fun _ => ?_)
      refine ret3 rfl rfl rfl ⟨[], ?_, II⟩
      unfold QNewPost
      rw [hm]
      exact ⟨rfl, rfl⟩
set_option maxHeartbeats 1000000 in
set_option maxRecDepth 10000 in
theorem qlast_ro (p : Nat) (a : Option Addr) (cap : Nat) (f : List Bool) (ch : List Ch) (hf : f.length = 4) (hs : ch.length < 1000000) :
    RO G 36 [.pointer (some ⟨p, 0, none⟩)] (refR p a cap f ch) (.int .i64 (lastM ch)) := by
  refine RO.enter Tryz.func36 rfl (by decide) rfl Tryz.ntmps36 rfl (fun A hu hA => ?_) (up_refR _ _ _ _ _)
  have hE1 : ∀ {L}, A ∈ L → Ent L (cellsAt p 0 (ints4 f ++ [.slice a ch.length cap])) := fun m => Ent.mem m hu fun k x => (hA k x).1
  have hE2 : ∀ {L}, A ∈ L → Ent L (readS a ch.length 3 (encL ch)) := fun m => Ent.mem m hu fun k x => (hA k x).2
  have hg : (ints4 f ++ [Value.slice a ch.length cap])[4]? = some (.slice a ch.length cap) := by
    obtain ⟨f0, f1, f2, f3, rfl⟩ := four hf; rfl
  repeat (first | refine GO ?_ | refine NW fun _ => ?_)
  refine WL.step rfl (OP.load1 (v := .slice a ch.length cap) rfl rfl rfl rfl (Ent.one (i := 4) (hE1 MM) hg) rfl rfl ?_)
  by_cases h0 : ch.length = 0
  · repeat (first | refine GD ?_ | refine NW fun _ => ?_)
    have : ch = [] := List.length_eq_zero_iff.1 h0
    subst this
    exact ret1 rfl ⟨rfl, MM⟩
  · repeat (first | refine GD ?_ | refine NW fun _ => ?_)
    refine WC.fact (Ent.some (hE2 MM) (by omega)) ?_
    rintro ⟨b, off, rfl⟩
    refine RD 14 14 ([A]) ?_
    refine WW 0 ?_; refine WW 1 ?_; refine WW 2 ?_
    refine VL 3 (.slice (some ⟨b, off, none⟩) ch.length cap) rfl rfl rfl rfl (.inl ⟨rfl, Ent.one (i := 4) (hE1 MM) hg⟩) ?_
    refine WW 4 ?_; refine WW 5 ?_; refine WW 6 ?_
    refine VL 7 (.slice (some ⟨b, off, none⟩) ch.length cap) rfl rfl rfl rfl (.inl ⟨rfl, Ent.one (i := 4) (hE1 MM) hg⟩) ?_
    refine WW 8 ?_; refine WW 9 ?_; refine WW 10 ?_; refine WW 11 ?_
    refine VL 12 (.int .i64 (ch[ch.length - 1]'(by omega)).1) rfl rfl rfl rfl (.inl ⟨rfl, by rw [show ((ch.length : Int) - 1).toNat = ch.length - 1 from by omega]; exact Ent.elem (i := (ch.length - 1) * 3 + 0) (hE2 MM) rfl (encL_get _ _ _ (by omega) (by decide))⟩) ?_
    refine WW 13 ?_
    refine DN ?_
    repeat (first | refine GO ?_ | refine NW fun _ => ?_)
    refine ret1 rfl ⟨?_, MM⟩
    unfold lastM
    rw [List.getLast?_eq_getElem?, List.getElem?_eq_getElem (by omega)]
set_option maxHeartbeats 2000000 in
set_option maxRecDepth 10000 in
theorem qhas_ro (p : Nat) (a : Option Addr) (cap : Nat) (f : List Bool) (ch : List Ch) (v m : Int) (hf : f.length = 4) (hv : 0 ≤ v ∧ v < 4) (hs : ch.length < 1000000) :
    RO G 102 [.pointer (some ⟨p, 0, none⟩), .int .i64 v, .int .i64 m] (refR p a cap f ch) (.bool (hasQ f ch v m)) := by
  refine RO.enter Tryz.func102 rfl (by decide) rfl Tryz.ntmps102 rfl (fun A hu hA => ?_) (up_refR _ _ _ _ _)
  have hE1 : ∀ {L}, A ∈ L → Ent L (cellsAt p 0 (ints4 f ++ [.slice a ch.length cap])) := fun m => Ent.mem m hu fun k x => (hA k x).1
  have hE2 : ∀ {L}, A ∈ L → Ent L (readS a ch.length 3 (encL ch)) := fun m => Ent.mem m hu fun k x => (hA k x).2
  have hg : (ints4 f ++ [Value.slice a ch.length cap])[4]? = some (.slice a ch.length cap) := by
    obtain ⟨f0, f1, f2, f3, rfl⟩ := four hf; rfl
  have hgv : (ints4 f ++ [Value.slice a ch.length cap])[v.toNat]? = some (bV (f.getD v.toNat false)) := by
    obtain ⟨f0, f1, f2, f3, rfl⟩ := four hf
    obtain rfl | rfl | rfl | rfl : v = 0 ∨ v = 1 ∨ v = 2 ∨ v = 3 := by omega
    all_goals rfl
  obtain ⟨hv0, hv1⟩ := hv
  repeat (first | refine GO ?_ | refine NW fun _ => ?_)
  refine WL.step rfl (OP.load1 (v := bV (f.getD v.toNat false)) rfl rfl rfl rfl (by rw [show 0 + 0 + v.toNat * 1 = 0 + v.toNat by omega]; exact Ent.one (i := v.toNat) (hE1 MM) hgv) rfl rfl ?_)
  have hdec : decide (bI (f.getD v.toNat false) = 1) = f.getD v.toNat false := by cases f.getD v.toNat false <;> rfl
  unfold bV
  repeat (first | refine GO ?_ | refine NW fun _ => ?_)
  rw [hdec]
  refine WL.step rfl (OP.load1 (v := .slice a ch.length cap) rfl rfl rfl rfl (Ent.one (i := 4) (hE1 MM) hg) rfl rfl ?_)
  repeat (first | refine GO ?_ | refine NW fun _ => ?_)
  refine WC.loop (σ := Nat) (fun k => k ≤ ch.length)
    (fun k => [(0, .val (.pointer (some ⟨p, 0, none⟩))), (1, .val (.int .i64 v)), (2, .val (.int .i64 m)), (7, .val (.bool (hasQ f (ch.take k) v m))), (20, .val (.int .i64 ch.length)), (21, .val (.int .i64 k))])
    (fun _ => [A]) (fun k => ch.length - k) 0 (Nat.zero_le _) ⟨rfl, rfl, rfl, rfl, rfl, rfl, trivial⟩ (Imp.refl _) ?_
  rintro k hk
  by_cases hlt : k < ch.length
  rotate_left
  · rw [List.take_of_length_le (by omega)]
    repeat (first | refine GD ?_ | refine NW fun _ => ?_)
    exact ret1 rfl ⟨rfl, MM⟩
  have hsn := hasQ_snoc f (ch.take k) ch[k] v m
  rw [← List.take_succ_eq_append_getElem hlt] at hsn
  have hge : ∀ j, j < 3 → (encL ch)[k * 3 + j]? = (encC ch[k])[j]? := fun j hj => encL_get _ _ _ hlt hj
  generalize ch[k] = c at *
  obtain ⟨cm, cv, cg⟩ := c
  dsimp only at hsn
  repeat (first | refine GD ?_ | refine NW fun _ => ?_)
  refine WL.step rfl (OP.load1 (v := .slice a ch.length cap) rfl rfl rfl rfl (Ent.one (i := 4) (hE1 MM) hg) rfl rfl ?_)
  refine WL.fact (Ent.some (hE2 MM) (by omega)) ?_
  rintro ⟨b, off, rfl⟩
  repeat (first | refine GD ?_ | refine NW fun _ => ?_)
  refine WL.step rfl (OP.load1 (v := .int .i64 cv) rfl rfl rfl rfl (Ent.elem (i := k * 3 + 1) (hE2 MM) rfl (hge 1 (by decide))) rfl rfl ?_)
  by_cases h1 : cv = v
  rotate_left
  · rw [if_neg (fun h => h1 h.1)] at hsn
    repeat (first | refine GD ?_ | refine NW fun _ => ?_)
    exact ⟨k + 1, by omega, by omega, ⟨rfl, rfl, rfl, by rw [hsn]; rfl, rfl, rfl, trivial⟩, Imp.refl _⟩
  repeat (first | refine GD ?_ | refine NW fun _ => ?_)
  refine WL.guardT rfl rfl rfl rfl (OP.load1 (v := .slice (some ⟨b, off, none⟩) ch.length cap) rfl rfl rfl rfl (Ent.one (i := 4) (hE1 MM) hg) rfl rfl ?_)
  repeat (first | refine GD ?_ | refine NW fun _ => ?_)
  refine WL.guardT rfl rfl rfl rfl (OP.load1 (v := .int .i64 cm) rfl rfl rfl rfl (Ent.elem (i := k * 3 + 0) (hE2 MM) rfl (hge 0 (by decide))) rfl rfl ?_)
  by_cases h2 : cm ≤ m
  rotate_left
  · rw [if_neg (fun h => h2 h.2)] at hsn
    repeat (first | refine GD ?_ | refine NW fun _ => ?_)
    exact ⟨k + 1, by omega, by omega, ⟨rfl, rfl, rfl, by rw [hsn]; rfl, rfl, rfl, trivial⟩, Imp.refl _⟩
  rw [if_pos ⟨h1, h2⟩] at hsn
  repeat (first | refine GD ?_ | refine NW fun _ => ?_)
  refine WL.step rfl (OP.load1 (v := .slice (some ⟨b, off, none⟩) ch.length cap) rfl rfl rfl rfl (Ent.one (i := 4) (hE1 MM) hg) rfl rfl ?_)
  repeat (first | refine GD ?_ | refine NW fun _ => ?_)
  refine WL.step rfl (OP.load1 (v := .bool cg) rfl rfl rfl rfl (Ent.elem (i := k * 3 + 2) (hE2 MM) rfl (hge 2 (by decide))) rfl rfl ?_)
  repeat (first | refine GD ?_ | refine NW fun _ => ?_)
  exact ⟨k + 1, by omega, by omega, ⟨rfl, rfl, rfl, by rw [hsn]; rfl, rfl, rfl, trivial⟩, Imp.refl _⟩
end Go.Proofs.YtleajkobmhhacaaGreatDoor
/- Contracts of functions of the given program, and plain laws on what they compute: parts of the proofs of laws. -/

namespace Go.Proofs.YtleajkobmhhacaaGreatDoor
open Go Go.GL

set_option maxHeartbeats 1000000 in
set_option maxRecDepth 10000 in
theorem qat_ok (p : Nat) (a : Option Addr) (cap : Nat) (f : List Bool) (ch : List Ch) (m : Int) (hf : f.length = 4) (hs : ch.length < 1000000) :
    RT G 34 [.pointer (some ⟨p, 0, none⟩), .int .i64 m] (refR p a cap f ch) (Ints (listQ f ch m 4)) := by
  refine RT.enter Tryz.func34 rfl (by decide) rfl Tryz.ntmps34 rfl (fun A hu hA => ?_)
  have hER : ∀ {L}, A ∈ L → Ent L (refR p a cap f ch) := fun m => Ent.mem m hu hA
  repeat (first | refine GO ?_ | refine NW fun _ => ?_)
  refine WC.imp (Imp.nilS 3 1) ?_
  refine WC.loop (σ := Nat × Nat × Option Addr × Nat × List Int) (fun s => s.1 ≤ 4 ∧ s.2.2.2.2 = listQ f ch m s.1 ∧ s.2.1 = s.2.2.2.2.length ∧ s.2.1 ≤ s.1)
    (fun s => [(0, .val (.pointer (some ⟨p, 0, none⟩))), (1, .val (.int .i64 m)), (5, .val (.slice s.2.2.1 s.2.1 s.2.2.2.1)), (6, .val (.int .i64 s.1))])
    (fun s => [ownS s.2.2.1 s.2.1 s.2.2.2.1 3 1 (s.2.2.2.2.map vI), A]) (fun s => 4 - s.1) (0, 0, none, 0, []) ⟨by simp, rfl, rfl, Nat.le_refl _⟩ ⟨rfl, rfl, rfl, rfl, trivial⟩ (Imp.refl _) ?_
  rintro ⟨k, n, a1, cap1, l⟩ ⟨hk, hl, hn, hnk⟩
  dsimp only at hk hl hn hnk ⊢
  by_cases h4 : k < 4
  rotate_left
  · have : k = 4 := by omega
    subst this
    repeat (first | refine GD ?_ | refine NW fun _ => ?_)
    exact ret1 rfl ⟨[_], ⟨a1, cap1, by rw [hn, hl], by rw [hn, hl]⟩, Imp.refl _⟩
  have hsucc := listQ_succ f ch m k
  rw [← hl] at hsucc
  repeat (first | refine GD ?_ | refine NW fun _ => ?_)
  refine WL.step rfl (OP.callRO rfl rfl (qhas_ro p a cap f ch k m hf ⟨by omega, by omega⟩ hs) (hER MM) rfl rfl ?_)
  cases hq : hasQ f ch k m
  · rw [hq, if_neg (by simp)] at hsucc
    repeat (first | refine GD ?_ | refine NW fun _ => ?_)
    exact ⟨(k + 1, n, a1, cap1, l), ⟨by dsimp only; omega, hsucc.symm, hn, by dsimp only; omega⟩, by dsimp only; omega, ⟨rfl, rfl, rfl, rfl, trivial⟩, Imp.refl _⟩
  · rw [hq, if_pos rfl] at hsucc
    repeat (first | refine GD ?_ | refine NW fun _ => ?_)
    refine WL.step rfl (OP.append rfl rfl rfl rfl rfl rfl rfl rfl rfl P1 (Ent.own MM) rfl (by omega) (by omega) rfl rfl (fun a' cap' => ?_))
    repeat (first | refine GD ?_ | refine NW fun _ => ?_)
    exact ⟨(k + 1, n + 1, a', cap', l ++ [(k : Int)]), ⟨by dsimp only; omega, hsucc.symm, by simp [hn], by dsimp only; omega⟩, by dsimp only; omega, ⟨rfl, rfl, rfl, rfl, trivial⟩, by rw [List.map_append]; exact II⟩
def QChPost (p : Nat) (a : Option Addr) (cap : Nat) (f : List Bool) (ch : List Ch) (c : Ch) (v : Value) (M : List Assn) : Prop :=
  match putM f ch c with
  | some code => v = .int .i64 code ∧ M = refL p a ch.length cap f ch
  | none => v = .int .i64 0 ∧ ∃ a' cap', M = refL p a' (ch.length + 1) cap' f (ch ++ [c])
set_option maxHeartbeats 4000000 in
set_option maxRecDepth 10000 in
theorem qchange_ok (p : Nat) (a : Option Addr) (cap : Nat) (f : List Bool) (ch : List Ch) (v m : Int) (g : Bool) (hf : f.length = 4) (hi : Inc ch) (hv : Vols ch) (hs : ch.length ≤ 100) :
    Triple G 97 [.pointer (some ⟨p, 0, none⟩), .int .i64 v, .int .i64 m, .bool g] (refL p a ch.length cap f ch) (QChPost p a cap f ch (m, v, g)) := by
  refine Triple.enter Tryz.func97 rfl (by decide) rfl Tryz.ntmps97 rfl (fun F => ?_)
  have hR : ∀ {L}, blk p (ints4 f ++ [.slice a ch.length cap]) 194 ∈ L → ownS a ch.length cap 196 3 (encL ch) ∈ L → Ent L (refR p a cap f ch) := fun m1 m2 => Ent.and (Ent.whole m1) (Ent.own m2)
  refine WC.imp (M := [blk p (ints4 f ++ [.slice a ch.length cap]) 194, ownS a ch.length cap 196 3 (encL ch), F]) (Imp.refl _) ?_
  repeat (first | refine GO ?_ | refine NW fun _ => ?_)
  refine WL.step rfl (OP.callRO rfl rfl (qin_ro _) (fun _ _ => trivial) rfl rfl ?_)
  by_cases h1 : 0 ≤ v ∧ v < 4
  rotate_left
  · rw [decide_eq_false h1]
    repeat (first | refine GD ?_ | refine NW fun _ => ?_)
    refine ret1 rfl ⟨refL p a ch.length cap f ch, ?_, II⟩
    unfold QChPost putM
    rw [if_pos h1]
    exact ⟨rfl, rfl⟩
  rw [decide_eq_true h1]
  repeat (first | refine GD ?_ | refine NW fun _ => ?_)
  refine WL.step rfl (OP.callRO rfl rfl (qlast_ro p a cap f ch hf (by omega)) (hR MM MM) rfl rfl ?_)
  by_cases h2 : m ≤ lastM ch
  · repeat (first | refine GD ?_ | refine NW fun _ => ?_)
    refine ret1 rfl ⟨refL p a ch.length cap f ch, ?_, II⟩
    unfold QChPost putM
    rw [if_neg (not_not_intro h1), if_pos h2]
    exact ⟨rfl, rfl⟩
  by_cases h3 : 1152921504606846975 < m
  · repeat (first | refine GD ?_ | refine NW fun _ => ?_)
    refine ret1 rfl ⟨refL p a ch.length cap f ch, ?_, II⟩
    unfold QChPost putM
    rw [if_neg (not_not_intro h1), if_neg h2, if_pos h3]
    exact ⟨rfl, rfl⟩
  repeat (first | refine GD ?_ | refine NW fun _ => ?_)
  refine WL.step rfl (OP.callRO rfl rfl (qlast_ro p a cap f ch hf (by omega)) (hR MM MM) rfl rfl ?_)
  refine WL.step rfl (OP.callRO rfl rfl (qhas_ro p a cap f ch v (lastM ch) hf h1 (by omega)) (hR MM MM) rfl rfl ?_)
  have hq := hasQ_at (m := lastM ch) hi hv hf h1
  rw [atM_high hi.srt (Int.le_refl _)] at hq
  by_cases h4 : (after f ch).getD v.toNat false = g
  rotate_left
  · have h4' : hasQ f ch v (lastM ch) ≠ g := by rw [hq]; exact h4
    generalize hasQ f ch v (lastM ch) = x at *
    have hx : x = !g := by cases x <;> cases g <;> simp at h4' ⊢
    subst hx
    cases g
    all_goals
      repeat (first | refine GD ?_ | refine NW fun _ => ?_)
      refine ret1 rfl ⟨refL p a ch.length cap f ch, ?_, II⟩
      unfold QChPost putM
      rw [if_neg (not_not_intro h1), if_neg h2, if_neg h3, if_pos h4]
      exact ⟨rfl, rfl⟩
  rw [hq, h4]
  have hg4 : ∀ {L}, blk p (ints4 f ++ [.slice a ch.length cap]) 194 ∈ L → Ent L (cellAt p (0 + 4) (.slice a ch.length cap)) := fun m1 => Ent.blk m1 (by obtain ⟨f0, f1, f2, f3, rfl⟩ := four hf; rfl)
  obtain ⟨f0, f1, f2, f3, rfl⟩ := four hf
  have hbe : (g != g) = false := by cases g <;> rfl
  refine WL.step rfl ?_
  refine OP.pure (nw := true) rfl trivial rfl rfl ?_
  refine WL.step rfl ?_
  refine OP.pure (nw := true) rfl trivial rfl rfl ?_
  rw [show (!(g == g)) = false by cases g <;> rfl]
  by_cases h5 : ch.length = 100
  · repeat (first | refine GD ?_ | refine NW fun _ => ?_)
    refine ret1 rfl ⟨refL p a ch.length cap _ ch, ?_, II⟩
    unfold QChPost putM
    rw [if_neg (not_not_intro h1), if_neg h2, if_neg h3, if_neg (by simpa using h4), if_pos (by omega)]
    exact ⟨rfl, rfl⟩
  repeat (first | refine GD ?_ | refine NW fun _ => ?_)
  refine WL.step rfl (OP.append rfl rfl rfl rfl rfl rfl rfl rfl rfl P1 (Ent.own MM) rfl (by omega) (by omega) rfl rfl (fun a' cap' => ?_))
  repeat (first | refine GD ?_ | refine NW fun _ => ?_)
  refine ret1 rfl ⟨[blk p (ints4 [f0, f1, f2, f3] ++ [.slice a' (ch.length + 1) cap']) 194, ownS a' (ch.length + 1) cap' 196 3 (encL ch ++ encC (m, v, g))], ?_, II⟩
  unfold QChPost putM
  rw [if_neg (not_not_intro h1), if_neg h2, if_neg h3, if_neg (by simpa using h4), if_neg (by omega)]
  exact ⟨rfl, a', cap', by unfold refL; rw [encL_snoc]⟩
end Go.Proofs.YtleajkobmhhacaaGreatDoor
/- Contracts of functions of the given program, and plain laws on what they compute: parts of the proofs of laws. -/

namespace Go.Proofs.YtleajkobmhhacaaGreatDoor
open Go Go.GL

/-! the document's disk -/
def strC (s : List UInt8) : Value := .string (ba s)
def wrC (x : Nat × List UInt8) : List Value := [.int .i64 x.1, .string (ba x.2)]
def rdskL (p : Nat) (D : Dsk) (x : Option Addr × Nat × Option Addr × Nat) : List Assn :=
  [blk p [.slice x.1 D.S.length x.2.1, .slice x.2.2.1 D.W.length x.2.2.2] 151,
   ownS x.1 D.S.length x.2.1 9 1 (D.S.map strC),
   ownS x.2.2.1 D.W.length x.2.2.2 202 2 (D.W.flatMap wrC)]
def rdsk (p : Nat) (D : Dsk) : Assn := exA (rdskL p D)
theorem up_rdsk (p : Nat) (D : Dsk) : Up (rdsk p D) := up_exA _
theorem rdskFold (p : Nat) (D : Dsk) (x : Option Addr × Nat × Option Addr × Nat) {N : List Assn} : Imp
    (blk p [.slice x.1 D.S.length x.2.1, .slice x.2.2.1 D.W.length x.2.2.2] 151 ::
     ownS x.1 D.S.length x.2.1 9 1 (D.S.map strC) ::
     ownS x.2.2.1 D.W.length x.2.2.2 202 2 (D.W.flatMap wrC) :: N) (rdsk p D :: N) := Imp.fold (Ls := rdskL p D) x
theorem wrC_len (x : Nat × List UInt8) : (wrC x).length = 2 := rfl
theorem strC_get {l : List (List UInt8)} {k : Nat} (h : k < l.length) : (l.map strC)[k * 1]? = some (strC l[k]) := by simp [h]
theorem ba_zero : strCells (ba zero64) = repL [Value.int .u8 0] 64 := by rw [strCells_ba, repL_bytes]; rfl
set_option maxHeartbeats 1000000 in
set_option maxRecDepth 10000 in
theorem rdnew_rt (n : Int) (hn : -9223372036854775808 ≤ n ∧ n ≤ 9223372036854775807) : RT G 14 [.int .i64 n] (fun _ => True) (fun v E => ∃ p, v = .pointer (some ⟨p, 0, none⟩) ∧ E = [rdsk p (Dsk.new n)]) := by
  refine RT.enter Tryz.func14 rfl (by decide) rfl Tryz.ntmps14 rfl (fun A hu hA => ?_)
  have hd : Dsk.new n = ⟨List.replicate (max 0 (min n 1024)).toNat zero64, []⟩ := rfl
  rw [hd]
  repeat (first | refine GO ?_ | refine NW fun _ => ?_)
  rename_i p
  refine WC.imp (Imp.nilS 9 1) ?_
  refine WC.loop (σ := Nat × Option Addr × Nat) (fun s => s.1 ≤ (max 0 (min n 1024)).toNat)
    (fun s => [(0, .val (.int .i64 n)), (3, .val (.pointer (some ⟨p, 0, none⟩))), (4, .val (.int .i64 s.1))])
    (fun s => [blk p [.slice s.2.1 s.1 s.2.2, .slice none 0 0] 151, ownS s.2.1 s.1 s.2.2 9 1 ((List.replicate s.1 zero64).map strC), A]) (fun s => (max 0 (min n 1024)).toNat - s.1) (0, none, 0) (Nat.zero_le _) ⟨rfl, rfl, rfl, trivial⟩ II ?_
  rintro ⟨k, a, cap⟩ hk
  dsimp only at hk ⊢
  by_cases h1 : (k : Int) < n
  rotate_left
  · have he : (max 0 (min n 1024)).toNat = k := by omega
    rw [he]
    repeat (first | refine GD ?_ | refine NW fun _ => ?_)
    refine ret1 rfl ⟨_, ⟨p, rfl, rfl⟩, (Imp.nilS 202 2).trans (Imp.trans ?_ (rdskFold p _ (a, cap, none, 0)))⟩
    dsimp only
    rw [List.length_replicate]
    exact II
  by_cases h2 : (k : Int) < 1024
  rotate_left
  · have he : (max 0 (min n 1024)).toNat = k := by omega
    rw [he]
    repeat (first | refine GD ?_ | refine NW fun _ => ?_)
    refine ret1 rfl ⟨_, ⟨p, rfl, rfl⟩, (Imp.nilS 202 2).trans (Imp.trans ?_ (rdskFold p _ (a, cap, none, 0)))⟩
    dsimp only
    rw [List.length_replicate]
    exact II
  repeat (first | refine GD ?_ | refine NW fun _ => ?_)
  refine RD 8 12 (_) ?_
  refine WP 0 ?_
  refine WP 1 ?_
  refine WP 2 ?_
  refine WP 3 ?_
  refine VV 4 ?_
  refine WH.only 5 rfl rfl (by kernel_rfl) rfl (OP.makeS (z := [.int .u8 0]) rfl rfl rfl rfl rfl rfl rfl rfl (by decide) (by decide) (by decide) rfl rfl (fun b => ⟨fun _ => II, ?_⟩))
  refine WH.more _ II (Imp.refl _) ?_
  refine VQ 6 rfl (Quiet.toStr (sv := ba zero64) rfl rfl rfl rfl rfl rfl rfl rfl (by rw [ba_zero]; exact Ent.own (T := 5) MM)) ?_
  refine WH.only 7 rfl rfl (by kernel_rfl) rfl (OP.sliceLit (c := [strC zero64]) rfl rfl rfl rfl rfl rfl rfl rfl (fun b2 => ⟨fun _ => II, ?_⟩))
  refine WH.only 8 rfl rfl (by kernel_rfl) rfl (OP.append rfl rfl rfl rfl rfl rfl rfl rfl rfl P1 (Ent.own MM) rfl (by omega) (by omega) rfl rfl (fun a' cap' => ⟨(fun h => nomatch h), ?_⟩))
  refine WP 9 ?_
  refine WP 10 ?_
  refine WH.only 11 rfl rfl (by kernel_rfl) rfl (OP.store rfl rfl rfl rfl rfl rfl rfl UP rfl ⟨(fun h => nomatch h), ?_⟩)
  refine DN ?_
  repeat (first | refine GD ?_ | refine NW fun _ => ?_)
  refine ⟨(k + 1, a', cap'), by dsimp only; omega, by dsimp only; omega, ⟨rfl, rfl, rfl, trivial⟩, ?_⟩
  dsimp only
  rw [List.replicate_succ', List.map_append]
  exact II
def RWrPost (p : Nat) (D : Dsk) (i : Int) (l : List UInt8) (v : Value) (M : List Assn) : Prop :=
  if (0 ≤ i ∧ i < D.S.length) ∧ l.length = 64 then v = .int .i64 0 ∧ M = [rdsk p (D.put i.toNat l)]
  else v = .int .i64 (if 0 ≤ i ∧ i < D.S.length then 1 else 5) ∧ M = [rdsk p D]
set_option maxHeartbeats 1000000 in
set_option maxRecDepth 10000 in
theorem rdwrite_ok (p : Nat) (D : Dsk) (i : Int) (l : List UInt8) (hw : D.W.length < 1000000) :
    Triple G 136 [.pointer (some ⟨p, 0, none⟩), .int .i64 i, .string (ba l)] [rdsk p D] (RWrPost p D i l) := by
  refine Triple.enter Tryz.func136 rfl (by decide) rfl Tryz.ntmps136 rfl (fun F => ?_)
  refine WC.open P1 (fun x => ?_)
  unfold rdskL
  dsimp only [List.cons_append, List.nil_append]
  have hsz := ba_size l
  by_cases h0 : i < 0
  · have hi : ¬ (0 ≤ i ∧ i < D.S.length) := by omega
    repeat (first | refine GD ?_ | refine NW fun _ => ?_)
    refine ret1 rfl ⟨[rdsk p D], ?_, Imp.trans II (rdskFold p D x)⟩
    unfold RWrPost
    first
      | rw [if_neg (fun h => hi h.1), if_neg hi]; exact ⟨rfl, rfl⟩
      | rw [if_neg (fun h => h64 h.2), if_pos hi]; exact ⟨rfl, rfl⟩
  by_cases h1 : i < D.S.length
  rotate_left
  · have hi : ¬ (0 ≤ i ∧ i < D.S.length) := by omega
    repeat (first | refine GD ?_ | refine NW fun _ => ?_)
    refine ret1 rfl ⟨[rdsk p D], ?_, Imp.trans II (rdskFold p D x)⟩
    unfold RWrPost
    first
      | rw [if_neg (fun h => hi h.1), if_neg hi]; exact ⟨rfl, rfl⟩
      | rw [if_neg (fun h => h64 h.2), if_pos hi]; exact ⟨rfl, rfl⟩
  have hi : 0 ≤ i ∧ i < D.S.length := by omega
  by_cases h64 : l.length = 64
  rotate_left
  · have h64' : ¬ ((ba l).size : Int) = 64 := by omega
    repeat (first | refine GD ?_ | refine NW fun _ => ?_)
    refine ret1 rfl ⟨[rdsk p D], ?_, Imp.trans II (rdskFold p D x)⟩
    unfold RWrPost
    first
      | rw [if_neg (fun h => hi h.1), if_neg hi]; exact ⟨rfl, rfl⟩
      | rw [if_neg (fun h => h64 h.2), if_pos hi]; exact ⟨rfl, rfl⟩
  have h64' : ((ba l).size : Int) = 64 := by omega
  have hii : (i.toNat : Int) = i := by omega
  repeat (first | refine GD ?_ | refine NW fun _ => ?_)
  have hwr : wrC (i.toNat, l) = [.int .i64 i, .string (ba l)] := by unfold wrC; rw [hii]
  refine WL.step rfl (OP.append (ds := [.int .i64 i, .string (ba l)]) rfl rfl rfl rfl rfl rfl rfl rfl rfl P1 (Ent.own MM) rfl (by omega) (by omega) rfl rfl (fun a' cap' => ?_))
  repeat (first | refine GD ?_ | refine NW fun _ => ?_)
  refine ret1 rfl ⟨[rdsk p (D.put i.toNat l)], ?_, ?_⟩
  · unfold RWrPost
    rw [if_pos ⟨hi, h64⟩]
    exact ⟨rfl, rfl⟩
  · refine Imp.trans ?_ (rdskFold p (D.put i.toNat l) (x.1, x.2.1, a', cap'))
    unfold Dsk.put
    dsimp only
    rw [List.length_append, List.flatMap_append, List.flatMap_cons, List.flatMap_nil, List.append_nil, hwr]
    exact II
def RRdV (D : Dsk) (i : Int) : Value := if 0 ≤ i ∧ i < D.S.length then .tuple #[.string (ba (D.cur i.toNat)), .int .i64 0] else .tuple #[.string ⟨#[]⟩, .int .i64 5]
theorem cur_def4 (D : Dsk) (i : Nat) : D.cur i = curF i (D.S.getD i []) D.W := rfl
set_option maxHeartbeats 1000000 in
set_option maxRecDepth 10000 in
theorem rdread_ro (p : Nat) (D : Dsk) (i : Int) (hw : D.W.length < 1000000) : RO G 39 [.pointer (some ⟨p, 0, none⟩), .int .i64 i] (rdsk p D) (RRdV D i) := by
  refine RO.enterEx Tryz.func39 rfl (by decide) rfl Tryz.ntmps39 rfl (fun y A hu hA => ?_)
  have hF : ∀ {L}, A ∈ L → Ent L (cellsAt p 0 [.slice y.1 D.S.length y.2.1, .slice y.2.2.1 D.W.length y.2.2.2]) := fun m => Ent.of hu hA m (Ent.whole (List.Mem.head _))
  have hS : ∀ {L}, A ∈ L → Ent L (readS y.1 D.S.length 1 (D.S.map strC)) := fun m => Ent.of hu hA m (Ent.own (List.Mem.tail _ (List.Mem.head _)))
  have hW : ∀ {L}, A ∈ L → Ent L (readS y.2.2.1 D.W.length 2 (D.W.flatMap wrC)) := fun m => Ent.of hu hA m (Ent.own (List.Mem.tail _ (List.Mem.tail _ (List.Mem.head _))))
  unfold RRdV
  by_cases h0 : i < 0
  · rw [if_neg (by omega)]
    repeat (first | refine GD ?_ | refine NW fun _ => ?_)
    exact ret2 rfl rfl ⟨rfl, MM⟩
  repeat (first | refine GD ?_ | refine NW fun _ => ?_)
  refine WL.guardT rfl rfl rfl rfl (OP.load1 (v := .slice y.1 D.S.length y.2.1) rfl rfl rfl rfl (Ent.one (i := 0) (hF MM) rfl) rfl rfl ?_)
  by_cases h1 : i < D.S.length
  rotate_left
  · rw [if_neg (by omega)]
    repeat (first | refine GD ?_ | refine NW fun _ => ?_)
    exact ret2 rfl rfl ⟨rfl, MM⟩
  rw [if_pos (by omega)]
  obtain ⟨k, rfl⟩ : ∃ k : Nat, i = k := ⟨i.toNat, by omega⟩
  have hk : k < D.S.length := by omega
  rw [Int.toNat_natCast]
  repeat (first | refine GD ?_ | refine NW fun _ => ?_)
  refine WL.step rfl (OP.load1 (v := .slice y.1 D.S.length y.2.1) rfl rfl rfl rfl (Ent.one (i := 0) (hF MM) rfl) rfl rfl ?_)
  refine WL.fact (Ent.some (hS MM) (by omega)) ?_
  rintro ⟨bs, off, hys⟩
  rw [hys]
  rw [hys] at hS
  repeat (first | refine GD ?_ | refine NW fun _ => ?_)
  refine WL.step rfl (OP.load1 (v := strC D.S[k]) rfl rfl rfl rfl (Ent.elem (hS MM) rfl (strC_get hk)) rfl rfl ?_)
  repeat (first | refine GD ?_ | refine NW fun _ => ?_)
  refine WL.step rfl (OP.load1 (v := .slice y.2.2.1 D.W.length y.2.2.2) rfl rfl rfl rfl (Ent.one (i := 1) (hF MM) rfl) rfl rfl ?_)
  repeat (first | refine GD ?_ | refine NW fun _ => ?_)
  refine WC.loop (σ := Nat) (fun j => j ≤ D.W.length)
    (fun j => [(0, .val (.pointer (some ⟨p, 0, none⟩))), (1, .val (.int .i64 k)), (6, .val (strC (curF k D.S[k] (D.W.take j)))), (30, .val (.int .i64 D.W.length)), (31, .val (.int .i64 j))])
    (fun j => [A]) (fun j => D.W.length - j) 0 (Nat.zero_le _) ⟨rfl, rfl, rfl, rfl, rfl, trivial⟩ (Imp.refl _) ?_
  rintro j hj
  by_cases hlt : j < D.W.length
  rotate_left
  · have hje : j = D.W.length := by omega
    subst hje
    rw [List.take_length]
    have hcur : D.cur k = curF k D.S[k] D.W := by rw [cur_def4, List.getD_eq_getElem?_getD, List.getElem?_eq_getElem hk]; rfl
    repeat (first | refine GD ?_ | refine NW fun _ => ?_)
    refine ret2 rfl rfl ⟨?_, MM⟩
    rw [hcur]
    rfl
  have hsn : curF k D.S[k] (D.W.take (j + 1)) = if (D.W[j]).1 = k then (D.W[j]).2 else curF k D.S[k] (D.W.take j) := by
    rw [← List.take_append_getElem hlt, curF_snoc]
  refine WC.fact (Ent.some (hW MM) (by omega)) ?_
  rintro ⟨bw, offw, hyw⟩
  rw [hyw] at hW
  have hel : ∀ {L} (i : Nat) (v : Value), Nat.blt i 2 = true → (wrC D.W[j])[i]? = some v → A ∈ L → Ent L (cellAt bw (offw + j * 2 + i) v) := fun i v hi hv m => Ent.elF wrC_len (hW m) hlt hi hv
  generalize D.W[j] = e at *
  obtain ⟨ei, eb⟩ := e
  dsimp only at hsn
  repeat (first | refine GD ?_ | refine NW fun _ => ?_)
  refine WL.step rfl (OP.load1 (v := .slice (some ⟨bw, offw, none⟩) D.W.length y.2.2.2) rfl rfl rfl rfl (by rw [← hyw]; exact Ent.one (i := 1) (hF MM) rfl) rfl rfl ?_)
  repeat (first | refine GD ?_ | refine NW fun _ => ?_)
  refine WL.step rfl (OP.load1 (v := .int .i64 ei) rfl rfl rfl rfl (hel 0 _ rfl rfl MM) rfl rfl ?_)
  by_cases hek : ei = k
  · rw [if_pos hek] at hsn
    subst hek
    repeat (first | refine GD ?_ | refine NW fun _ => ?_)
    refine WL.step rfl (OP.load1 (v := .slice (some ⟨bw, offw, none⟩) D.W.length y.2.2.2) rfl rfl rfl rfl (by rw [← hyw]; exact Ent.one (i := 1) (hF MM) rfl) rfl rfl ?_)
    repeat (first | refine GD ?_ | refine NW fun _ => ?_)
    refine WL.step rfl (OP.load1 (v := .string (ba eb)) rfl rfl rfl rfl (hel 1 _ rfl rfl MM) rfl rfl ?_)
    repeat (first | refine GD ?_ | refine NW fun _ => ?_)
    exact ⟨j + 1, by omega, by omega, ⟨rfl, rfl, by rw [hsn]; rfl, rfl, rfl, trivial⟩, II⟩
  · rw [if_neg hek] at hsn
    have hne : ¬ (ei : Int) = k := by omega
    repeat (first | refine GD ?_ | refine NW fun _ => ?_)
    exact ⟨j + 1, by omega, by omega, ⟨rfl, rfl, by rw [hsn]; rfl, rfl, rfl, trivial⟩, II⟩
end Go.Proofs.YtleajkobmhhacaaGreatDoor
