/-
  The law MarksOrder holds: whatever the input, the Go function returns true, and each argument reads as it did. Conditions: none beyond the statement's own.
-/
import Derived.Test.YtacgheafbkfciaaZMk7
import Derived.Test.YtacgheafbkfciaaZMk12
import Derived.Test.YtacgheafbkfciaaRows
import Derived.Test.YtacgheafbkfciaaZMk5
/- Contracts of functions of the given program, and plain laws on what they compute: parts of the proofs of laws. -/

namespace Go.Proofs.Ytacgheafbkfciaa
open Go Go.GL

theorem isNew_le {S S' : Int → Int → Bool} {vols vols' : List Int} {k k' : Int} (hk : IsNew S vols k) (hk' : IsNew S' vols' k') (h : ∀ m, vols ≠ [] → lacksS S m vols = [] → vols' ≠ [] ∧ lacksS S' m vols' = []) : k ≤ k' := by
  obtain ⟨h1, h2, _⟩ := hk
  obtain ⟨h4, _, h6⟩ := hk'
  rcases h2 with h2 | ⟨h2, h3⟩
  · omega
  · by_cases hz : 0 < k
    · obtain ⟨g1, g2⟩ := h k h2 h3
      exact h6 k hz g1 g2
    · omega
theorem lacks_nil {S S' : Int → Int → Bool} {vols vols' : List Int} {m : Int} (h : ∀ v ∈ vols', v ∈ vols) (hs : ∀ v, rowS S v m = true → rowS S' v m = true) (hl : lacksS S m vols = []) : lacksS S' m vols' = [] := by
  unfold lacksS
  rw [List.filter_eq_nil_iff]
  intro v hv
  rw [hs v (lacks_head hl (h v hv))]
  decide
theorem sorted_few {S : Int → Int → Bool} {fl : List Int} (hF : Few S fl) {v : Int} {o : List Int} (ho : SortedOf (rowS S v) o) : o.length ≤ 100000 := by
  refine Nat.le_trans (length_le_of_mem (b := fl) (ho.1.imp fun h e => by omega) (fun k hk => ?_)) hF.len
  have := (ho.2 k).1 hk
  unfold rowS at this
  split at this
  · exact hF.mem v k this
  · cases this
theorem allOne_ints : ∀ (l : List Int), allOne (l.map iV) = true
  | [] => rfl
  | _ :: l => allOne_ints l
theorem stepS_mono {S : Int → Int → Bool} {v m : Int} (a b : Int) (h : S a b = true) : stepS S v m a b = true := by rw [stepS_eq, h]; rfl
set_option maxHeartbeats 16000000 in
set_option maxRecDepth 10000 in
theorem mnewestlaw_ro (a a1 : Option Addr) (n c n1 c1 : Nat) (l : List MOp) (vols : List Int) (x2 x3 : Int) (hn : n = l.length) (hn1 : n1 = vols.length) (hw : ∀ o ∈ l, (Lit.int .i64 o.2.2).wf = true) :
    RO G 3 [.slice a n c, .slice a1 n1 c1, .int .i64 x2, .int .i64 x3] (fun h => readS a n 3 (l.flatMap encM) h ∧ readI a1 n1 vols h) (.bool true) := by
  refine RO.enter Try.func3 rfl (by decide) rfl Try.ntmps3 rfl (fun A hu hA => ?_) (up_and (up_readS _ _ _ _) (up_readS _ _ _ _))
  have hE : ∀ {L}, A ∈ L → Ent L (readS a n 3 (l.flatMap encM)) := fun m => Ent.mem m hu fun k x => (hA k x).1
  have hE1 : ∀ {L}, A ∈ L → Ent L (readI a1 n1 vols) := fun m => Ent.mem m hu fun k x => (hA k x).2
  repeat (first | refine GD ?_ | refine NW fun _ => ?_)
  refine WL.step rfl (OP.callRO rfl rfl mawake_ro (fun _ _ => trivial) rfl rfl ?_)
  by_cases h200 : 200 < n
  · repeat (first | refine GD ?_ | refine NW fun _ => ?_)
    refine WL.step rfl (OP.callRO rfl rfl mawake_ro (fun _ _ => trivial) rfl rfl ?_)
    repeat (first | refine GD ?_ | refine NW fun _ => ?_)
    exact ret1 rfl ⟨rfl, MM⟩
  by_cases h20 : 20 < n1
  · repeat (first | refine GD ?_ | refine NW fun _ => ?_)
    refine WL.step rfl (OP.callRO rfl rfl mawake_ro (fun _ _ => trivial) rfl rfl ?_)
    repeat (first | refine GD ?_ | refine NW fun _ => ?_)
    exact ret1 rfl ⟨rfl, MM⟩
  repeat (first | refine GD ?_ | refine NW fun _ => ?_)
  rename_i p
  refine WC.imp (mtabNil p) ?_
  refine WC.loop (σ := Nat) (fun k => k ≤ n)
    (fun k => [(0, .val (.slice a n c)), (1, .val (.slice a1 n1 c1)), (2, .val (.int .i64 x2)), (3, .val (.int .i64 x3)), (9, .val (.pointer (some ⟨p, 0, none⟩))), (31, .val (.int .i64 n)), (32, .val (.int .i64 k))])
    (fun k => [mtab p (playS (l.take k)), A]) (fun k => n - k) 0 (Nat.zero_le _) ⟨rfl, rfl, rfl, rfl, rfl, rfl, rfl, trivial⟩ (Imp.refl _) ?_
  rintro k hk
  by_cases hlt : k < n
  · have hlk : k < l.length := by omega
    have hsn : playS (l.take (k + 1)) = stepS (playS (l.take k)) l[k].2.1 l[k].2.2 := by rw [← List.take_append_getElem hlk, playS_snoc]
    refine WC.fact (Ent.some (hE MM) (by omega)) ?_
    rintro ⟨b, off, rfl⟩
    have hel : ∀ {L} (i : Nat) (v : Value), Nat.blt i 3 = true → (encM l[k])[i]? = some v → A ∈ L → Ent L (cellAt b (off + k * 3 + i) v) := fun i v hi hv m => Ent.elF encM_len (hE m) hlk hi hv
    generalize l[k] = o at *
    obtain ⟨kd, v, m⟩ := o
    dsimp only at hsn
    repeat (first | refine GD ?_ | refine NW fun _ => ?_)
    refine RD 11 12 (_) ?_
    refine WP 0 ?_
    refine WP 1 ?_
    refine WP 2 ?_
    refine WP 3 ?_
    refine WP 4 ?_
    refine VL 5 (.int .i64 v) rfl rfl rfl rfl (.inl ⟨rfl, hel 1 _ rfl rfl MM⟩) ?_
    refine WP 6 ?_
    refine WP 7 ?_
    refine WP 8 ?_
    refine WP 9 ?_
    refine VL 10 (.int .i64 m) rfl rfl rfl rfl (.inl ⟨rfl, hel 2 _ rfl rfl MM⟩) ?_
    refine WH.only 11 rfl rfl (by kernel_rfl) rfl (OP.call (pre := [mtab p (playS (l.take k))]) rfl rfl (mput_ok p _ v m) PS rfl rfl (fun x M hM => ?_))
    obtain ⟨E, rfl⟩ := hM.one
    refine ⟨(fun h => nomatch h), ?_⟩
    refine DN ?_
    repeat (first | refine GD ?_ | refine NW fun _ => ?_)
    exact ⟨k + 1, by omega, by omega, ⟨rfl, rfl, rfl, rfl, rfl, rfl, rfl, trivial⟩, by rw [hsn]; exact Imp.dropE E [mtab p (stepS (playS (l.take k)) v m)] [A]⟩
  obtain rfl : k = l.length := by omega
  have hF := playFew hw (by omega)
  rw [List.take_length]
  generalize playS l = S at *
  repeat (first | refine GD ?_ | refine NW fun _ => ?_)
  refine WL.step rfl (OP.callRT rfl rfl (mnewest_rt p S a1 n1 c1 vols hn1 (by omega)) (Ent.and (Ent.mem (A := mtab p S) MM (up_mtab _ _) fun _ a => a) (hE1 MM)) rfl rfl ?_)
  rintro _ _ ⟨best, hbest, rfl, rfl⟩
  by_cases hb : 0 < best
  · have hz : lacksS S best vols = [] := by
      rcases hbest.2.1 with h | h
      · omega
      · exact h.2
    have hz2 : ((lacksS S best vols).length : Int) = 0 := by rw [hz]; rfl
    repeat (first | refine GD ?_ | refine NW fun _ => ?_)
    refine WL.guardT rfl rfl rfl rfl (OP.callRT rfl rfl (mlacks_rt p S best a1 n1 c1 vols hn1 (by omega)) (Ent.and (Ent.mem (A := mtab p S) MM (up_mtab _ _) fun _ a => a) (hE1 MM)) rfl rfl ?_)
    rintro _ _ ⟨aL, capL, rfl, rfl⟩
    repeat (first | refine GD ?_ | refine NW fun _ => ?_)
    refine WC.loop (σ := Nat) (fun i => i ≤ n1)
      (fun i => [(0, .val (.slice a n c)), (1, .val (.slice a1 n1 c1)), (2, .val (.int .i64 x2)), (3, .val (.int .i64 x3)), (9, .val (.pointer (some ⟨p, 0, none⟩))), (11, .val (.int .i64 best)), (62, .val (.int .i64 n1)), (63, .val (.int .i64 i))])
      (fun _ => [mtab p S, A]) (fun i => n1 - i) 0 (Nat.zero_le _) ⟨rfl, rfl, rfl, rfl, rfl, rfl, rfl, rfl, trivial⟩ II ?_
    rintro i hi
    by_cases hli : i < n1
    · have hlv : i < vols.length := by omega
      have hne : vols ≠ [] := fun e => by rw [e] at hlv; exact Nat.not_lt_zero _ hlv
      refine WC.fact (Ent.some (hE1 MM) (by omega)) ?_
      rintro ⟨b1, off1, rfl⟩
      have hel1 : ∀ {L}, A ∈ L → Ent L (cellAt b1 (off1 + i * 1) (iV vols[i])) := fun m => Ent.elem (hE1 m) rfl (int_get hlv)
      generalize vols[i] = v at *
      repeat (first | refine GD ?_ | refine NW fun _ => ?_)
      refine WL.step rfl (OP.load1 (v := .int .i64 v) rfl rfl rfl rfl (hel1 MM) rfl rfl ?_)
      refine WL.step rfl (OP.callRT rfl rfl (mof_rt p S v hF) (Ent.mem (A := mtab p S) MM (up_mtab _ _) fun _ a => a) rfl rfl ?_)
      rintro _ _ ⟨aO, capO, o, ho, rfl, rfl⟩
      have holen : o.length ≤ 100000 := sorted_few hF ho
      repeat (first | refine GD ?_ | refine NW fun _ => ?_)
      refine WC.loop (σ := Nat) (fun j => j ≤ o.length)
        (fun j => [(0, .val (.slice a n c)), (1, .val (.slice (some ⟨b1, off1, none⟩) n1 c1)), (2, .val (.int .i64 x2)), (3, .val (.int .i64 x3)), (9, .val (.pointer (some ⟨p, 0, none⟩))), (11, .val (.int .i64 best)), (62, .val (.int .i64 n1)), (63, .val (.int .i64 i)), (12, .val (.int .i64 i)), (13, .val (.slice aO o.length capO)), (73, .val (.int .i64 o.length)), (74, .val (.int .i64 j))])
        (fun _ => [ownS aO o.length capO 3 1 (o.map iV), mtab p S, A]) (fun j => o.length - j) 0 (Nat.zero_le _) ⟨rfl, rfl, rfl, rfl, rfl, rfl, rfl, rfl, rfl, rfl, rfl, rfl, trivial⟩ II ?_
      rintro j hj
      by_cases hlj : j < o.length
      · refine WC.fact (Ent.some (Ent.own (T := 3) (cap := capO) (cs := o.map iV) MM) (by omega)) ?_
        rintro ⟨bO, offO, rfl⟩
        have helO : ∀ {L}, ownS (some ⟨bO, offO, none⟩) o.length capO 3 1 (o.map iV) ∈ L → Ent L (cellAt bO (offO + j * 1) (iV o[j])) := fun m => Ent.elem (Ent.own m) rfl (int_get hlj)
        generalize o[j] = x at *
        repeat (first | refine GD ?_ | refine NW fun _ => ?_)
        refine WL.step rfl (OP.load1 (v := .int .i64 x) rfl rfl rfl rfl (helO MM) rfl rfl ?_)
        by_cases hxb : best < x
        rotate_left
        · repeat (first | refine GD ?_ | refine NW fun _ => ?_)
          exact ⟨j + 1, by omega, by omega, ⟨rfl, rfl, rfl, rfl, rfl, rfl, rfl, rfl, rfl, rfl, rfl, rfl, trivial⟩, II⟩
        have hlne : lacksS S x vols ≠ [] := fun h => by
          have := hbest.2.2 x (by have := hbest.1; omega) hne h
          omega
        have hll : ¬ ((lacksS S x vols).length : Int) = 0 := fun h => hlne (List.eq_nil_of_length_eq_zero (by omega))
        repeat (first | refine GD ?_ | refine NW fun _ => ?_)
        refine WL.guardT rfl rfl rfl rfl (OP.load1 (v := .int .i64 x) rfl rfl rfl rfl (helO MM) rfl rfl ?_)
        repeat (first | refine GD ?_ | refine NW fun _ => ?_)
        refine WL.guardT rfl rfl rfl rfl (OP.callRT rfl rfl (mlacks_rt p S x _ n1 c1 vols hn1 (by omega)) (Ent.and (Ent.mem (A := mtab p S) MM (up_mtab _ _) fun _ a => a) (hE1 MM)) rfl rfl ?_)
        rintro _ _ ⟨aL, capL, rfl, rfl⟩
        repeat (first | refine GD ?_ | refine NW fun _ => ?_)
        exact ⟨j + 1, by omega, by omega, ⟨rfl, rfl, rfl, rfl, rfl, rfl, rfl, rfl, rfl, rfl, rfl, rfl, trivial⟩, II⟩
      · repeat (first | refine GD ?_ | refine NW fun _ => ?_)
        exact ⟨i + 1, by omega, by omega, ⟨rfl, rfl, rfl, rfl, rfl, rfl, rfl, rfl, trivial⟩, II⟩
    by_cases h0 : 0 < n1
    · repeat (first | refine GD ?_ | refine NW fun _ => ?_)
      refine WL.guardT rfl rfl rfl rfl (OP.lit0 (size := 1) rfl rfl rfl rfl rfl rfl fun b5 => ?_)
      repeat (first | refine GD ?_ | refine NW fun _ => ?_)
      refine WL.guardT rfl rfl rfl rfl (OP.append (ds := vols.map iV) rfl rfl rfl rfl rfl rfl rfl rfl rfl P1 (hE1 MM) (allOne_ints vols) (by omega) (by omega) rfl rfl (fun a6 cap6 => ?_))
      repeat (first | refine GD ?_ | refine NW fun _ => ?_)
      refine WL.guardT rfl rfl rfl rfl (OP.sliceLit (c := [iV x2]) rfl rfl rfl rfl rfl rfl rfl rfl (fun b7 => ?_))
      refine WL.guardT rfl rfl rfl rfl (OP.append (ds := [iV x2]) rfl rfl rfl rfl rfl rfl rfl rfl rfl P1 (Ent.own MM) rfl (by omega) (by omega) rfl rfl (fun a8 cap8 => ?_))
      refine WL.guardT rfl rfl rfl rfl (OP.callRT rfl rfl (mnewest_rt p S a8 (0 + n1 + 1) cap8 (vols ++ [x2]) (by simp [hn1]) (by omega)) (Ent.and (Ent.mem (A := mtab p S) MM (up_mtab _ _) fun _ a => a) (by rw [readI, List.map_append]; exact Ent.own MM)) rfl rfl ?_)
      rintro _ _ ⟨k2, hk2, rfl, rfl⟩
      have hle2 : ¬ best < k2 := by
        have := isNew_le hk2 hbest fun m h1 h2 => ⟨fun e => by rw [e] at hn1; simp at hn1; omega, lacks_nil (fun v h => List.mem_append_left _ h) (fun _ h => h) h2⟩
        omega
      repeat (first | refine GD ?_ | refine NW fun _ => ?_)
      refine WL.step rfl (OP.call (pre := [mtab p S]) rfl rfl (mput_ok p _ x2 x3) PS rfl rfl ?_)
      intro x M hM
      obtain ⟨E, rfl⟩ := hM.one
      repeat (first | refine GD ?_ | refine NW fun _ => ?_)
      refine WL.imp (Imp.dropE E [mtab p (stepS S x2 x3)] _) ?_
      dsimp only [List.cons_append, List.nil_append]
      refine WL.step rfl (OP.callRT rfl rfl (mnewest_rt p (stepS S x2 x3) a1 n1 c1 vols hn1 (by omega)) (Ent.and (Ent.mem (A := mtab p (stepS S x2 x3)) MM (up_mtab _ _) fun _ a => a) (hE1 MM)) rfl rfl ?_)
      rintro _ _ ⟨k3, hk3, rfl, rfl⟩
      have hle : best ≤ k3 := isNew_le hbest hk3 fun m h1 h2 => ⟨h1, lacks_nil (fun _ h => h) (fun v h => rowS_mono stepS_mono v m h) h2⟩
      repeat (first | refine GD ?_ | refine NW fun _ => ?_)
      exact ret1 rfl ⟨rfl, MM⟩
    · repeat (first | refine GD ?_ | refine NW fun _ => ?_)
      refine WL.step rfl (OP.call (pre := [mtab p S]) rfl rfl (mput_ok p _ x2 x3) PS rfl rfl ?_)
      intro x M hM
      obtain ⟨E, rfl⟩ := hM.one
      repeat (first | refine GD ?_ | refine NW fun _ => ?_)
      refine WL.imp (Imp.dropE E [mtab p (stepS S x2 x3)] _) ?_
      dsimp only [List.cons_append, List.nil_append]
      refine WL.step rfl (OP.callRT rfl rfl (mnewest_rt p (stepS S x2 x3) a1 n1 c1 vols hn1 (by omega)) (Ent.and (Ent.mem (A := mtab p (stepS S x2 x3)) MM (up_mtab _ _) fun _ a => a) (hE1 MM)) rfl rfl ?_)
      rintro _ _ ⟨k3, hk3, rfl, rfl⟩
      have hle : best ≤ k3 := isNew_le hbest hk3 fun m h1 h2 => ⟨h1, lacks_nil (fun _ h => h) (fun v h => rowS_mono stepS_mono v m h) h2⟩
      repeat (first | refine GD ?_ | refine NW fun _ => ?_)
      exact ret1 rfl ⟨rfl, MM⟩
  · repeat (first | refine GD ?_ | refine NW fun _ => ?_)
    refine WC.loop (σ := Nat) (fun i => i ≤ n1)
      (fun i => [(0, .val (.slice a n c)), (1, .val (.slice a1 n1 c1)), (2, .val (.int .i64 x2)), (3, .val (.int .i64 x3)), (9, .val (.pointer (some ⟨p, 0, none⟩))), (11, .val (.int .i64 best)), (62, .val (.int .i64 n1)), (63, .val (.int .i64 i))])
      (fun _ => [mtab p S, A]) (fun i => n1 - i) 0 (Nat.zero_le _) ⟨rfl, rfl, rfl, rfl, rfl, rfl, rfl, rfl, trivial⟩ II ?_
    rintro i hi
    by_cases hli : i < n1
    · have hlv : i < vols.length := by omega
      have hne : vols ≠ [] := fun e => by rw [e] at hlv; exact Nat.not_lt_zero _ hlv
      refine WC.fact (Ent.some (hE1 MM) (by omega)) ?_
      rintro ⟨b1, off1, rfl⟩
      have hel1 : ∀ {L}, A ∈ L → Ent L (cellAt b1 (off1 + i * 1) (iV vols[i])) := fun m => Ent.elem (hE1 m) rfl (int_get hlv)
      generalize vols[i] = v at *
      repeat (first | refine GD ?_ | refine NW fun _ => ?_)
      refine WL.step rfl (OP.load1 (v := .int .i64 v) rfl rfl rfl rfl (hel1 MM) rfl rfl ?_)
      refine WL.step rfl (OP.callRT rfl rfl (mof_rt p S v hF) (Ent.mem (A := mtab p S) MM (up_mtab _ _) fun _ a => a) rfl rfl ?_)
      rintro _ _ ⟨aO, capO, o, ho, rfl, rfl⟩
      have holen : o.length ≤ 100000 := sorted_few hF ho
      repeat (first | refine GD ?_ | refine NW fun _ => ?_)
      refine WC.loop (σ := Nat) (fun j => j ≤ o.length)
        (fun j => [(0, .val (.slice a n c)), (1, .val (.slice (some ⟨b1, off1, none⟩) n1 c1)), (2, .val (.int .i64 x2)), (3, .val (.int .i64 x3)), (9, .val (.pointer (some ⟨p, 0, none⟩))), (11, .val (.int .i64 best)), (62, .val (.int .i64 n1)), (63, .val (.int .i64 i)), (12, .val (.int .i64 i)), (13, .val (.slice aO o.length capO)), (73, .val (.int .i64 o.length)), (74, .val (.int .i64 j))])
        (fun _ => [ownS aO o.length capO 3 1 (o.map iV), mtab p S, A]) (fun j => o.length - j) 0 (Nat.zero_le _) ⟨rfl, rfl, rfl, rfl, rfl, rfl, rfl, rfl, rfl, rfl, rfl, rfl, trivial⟩ II ?_
      rintro j hj
      by_cases hlj : j < o.length
      · refine WC.fact (Ent.some (Ent.own (T := 3) (cap := capO) (cs := o.map iV) MM) (by omega)) ?_
        rintro ⟨bO, offO, rfl⟩
        have helO : ∀ {L}, ownS (some ⟨bO, offO, none⟩) o.length capO 3 1 (o.map iV) ∈ L → Ent L (cellAt bO (offO + j * 1) (iV o[j])) := fun m => Ent.elem (Ent.own m) rfl (int_get hlj)
        generalize o[j] = x at *
        repeat (first | refine GD ?_ | refine NW fun _ => ?_)
        refine WL.step rfl (OP.load1 (v := .int .i64 x) rfl rfl rfl rfl (helO MM) rfl rfl ?_)
        by_cases hxb : best < x
        rotate_left
        · repeat (first | refine GD ?_ | refine NW fun _ => ?_)
          exact ⟨j + 1, by omega, by omega, ⟨rfl, rfl, rfl, rfl, rfl, rfl, rfl, rfl, rfl, rfl, rfl, rfl, trivial⟩, II⟩
        have hlne : lacksS S x vols ≠ [] := fun h => by
          have := hbest.2.2 x (by have := hbest.1; omega) hne h
          omega
        have hll : ¬ ((lacksS S x vols).length : Int) = 0 := fun h => hlne (List.eq_nil_of_length_eq_zero (by omega))
        repeat (first | refine GD ?_ | refine NW fun _ => ?_)
        refine WL.guardT rfl rfl rfl rfl (OP.load1 (v := .int .i64 x) rfl rfl rfl rfl (helO MM) rfl rfl ?_)
        repeat (first | refine GD ?_ | refine NW fun _ => ?_)
        refine WL.guardT rfl rfl rfl rfl (OP.callRT rfl rfl (mlacks_rt p S x _ n1 c1 vols hn1 (by omega)) (Ent.and (Ent.mem (A := mtab p S) MM (up_mtab _ _) fun _ a => a) (hE1 MM)) rfl rfl ?_)
        rintro _ _ ⟨aL, capL, rfl, rfl⟩
        repeat (first | refine GD ?_ | refine NW fun _ => ?_)
        exact ⟨j + 1, by omega, by omega, ⟨rfl, rfl, rfl, rfl, rfl, rfl, rfl, rfl, rfl, rfl, rfl, rfl, trivial⟩, II⟩
      · repeat (first | refine GD ?_ | refine NW fun _ => ?_)
        exact ⟨i + 1, by omega, by omega, ⟨rfl, rfl, rfl, rfl, rfl, rfl, rfl, rfl, trivial⟩, II⟩
    by_cases h0 : 0 < n1
    · repeat (first | refine GD ?_ | refine NW fun _ => ?_)
      refine WL.guardT rfl rfl rfl rfl (OP.lit0 (size := 1) rfl rfl rfl rfl rfl rfl fun b5 => ?_)
      repeat (first | refine GD ?_ | refine NW fun _ => ?_)
      refine WL.guardT rfl rfl rfl rfl (OP.append (ds := vols.map iV) rfl rfl rfl rfl rfl rfl rfl rfl rfl P1 (hE1 MM) (allOne_ints vols) (by omega) (by omega) rfl rfl (fun a6 cap6 => ?_))
      repeat (first | refine GD ?_ | refine NW fun _ => ?_)
      refine WL.guardT rfl rfl rfl rfl (OP.sliceLit (c := [iV x2]) rfl rfl rfl rfl rfl rfl rfl rfl (fun b7 => ?_))
      refine WL.guardT rfl rfl rfl rfl (OP.append (ds := [iV x2]) rfl rfl rfl rfl rfl rfl rfl rfl rfl P1 (Ent.own MM) rfl (by omega) (by omega) rfl rfl (fun a8 cap8 => ?_))
      refine WL.guardT rfl rfl rfl rfl (OP.callRT rfl rfl (mnewest_rt p S a8 (0 + n1 + 1) cap8 (vols ++ [x2]) (by simp [hn1]) (by omega)) (Ent.and (Ent.mem (A := mtab p S) MM (up_mtab _ _) fun _ a => a) (by rw [readI, List.map_append]; exact Ent.own MM)) rfl rfl ?_)
      rintro _ _ ⟨k2, hk2, rfl, rfl⟩
      have hle2 : ¬ best < k2 := by
        have := isNew_le hk2 hbest fun m h1 h2 => ⟨fun e => by rw [e] at hn1; simp at hn1; omega, lacks_nil (fun v h => List.mem_append_left _ h) (fun _ h => h) h2⟩
        omega
      repeat (first | refine GD ?_ | refine NW fun _ => ?_)
      refine WL.step rfl (OP.call (pre := [mtab p S]) rfl rfl (mput_ok p _ x2 x3) PS rfl rfl ?_)
      intro x M hM
      obtain ⟨E, rfl⟩ := hM.one
      repeat (first | refine GD ?_ | refine NW fun _ => ?_)
      refine WL.imp (Imp.dropE E [mtab p (stepS S x2 x3)] _) ?_
      dsimp only [List.cons_append, List.nil_append]
      refine WL.step rfl (OP.callRT rfl rfl (mnewest_rt p (stepS S x2 x3) a1 n1 c1 vols hn1 (by omega)) (Ent.and (Ent.mem (A := mtab p (stepS S x2 x3)) MM (up_mtab _ _) fun _ a => a) (hE1 MM)) rfl rfl ?_)
      rintro _ _ ⟨k3, hk3, rfl, rfl⟩
      have hle : best ≤ k3 := isNew_le hbest hk3 fun m h1 h2 => ⟨h1, lacks_nil (fun _ h => h) (fun v h => rowS_mono stepS_mono v m h) h2⟩
      repeat (first | refine GD ?_ | refine NW fun _ => ?_)
      exact ret1 rfl ⟨rfl, MM⟩
    · repeat (first | refine GD ?_ | refine NW fun _ => ?_)
      refine WL.step rfl (OP.call (pre := [mtab p S]) rfl rfl (mput_ok p _ x2 x3) PS rfl rfl ?_)
      intro x M hM
      obtain ⟨E, rfl⟩ := hM.one
      repeat (first | refine GD ?_ | refine NW fun _ => ?_)
      refine WL.imp (Imp.dropE E [mtab p (stepS S x2 x3)] _) ?_
      dsimp only [List.cons_append, List.nil_append]
      refine WL.step rfl (OP.callRT rfl rfl (mnewest_rt p (stepS S x2 x3) a1 n1 c1 vols hn1 (by omega)) (Ent.and (Ent.mem (A := mtab p (stepS S x2 x3)) MM (up_mtab _ _) fun _ a => a) (hE1 MM)) rfl rfl ?_)
      rintro _ _ ⟨k3, hk3, rfl, rfl⟩
      have hle : best ≤ k3 := isNew_le hbest hk3 fun m h1 h2 => ⟨h1, lacks_nil (fun _ h => h) (fun v h => rowS_mono stepS_mono v m h) h2⟩
      repeat (first | refine GD ?_ | refine NW fun _ => ?_)
      exact ret1 rfl ⟨rfl, MM⟩
end Go.Proofs.Ytacgheafbkfciaa
/- Contracts of functions of the given program, and plain laws on what they compute: parts of the proofs of laws. -/

namespace Go.Proofs.Ytacgheafbkfciaa
open Go Go.GL

theorem playS_eq (l : List MOp) (a b : Int) : playS l a b = true ↔ ∃ o ∈ l, a = o.2.1 ∧ b = o.2.2 ∧ 0 ≤ o.2.1 ∧ o.2.1 < 4 ∧ 1 ≤ o.2.2 := by
  have go : ∀ (r : List MOp) (S : Int → Int → Bool), r.foldl (fun S o => stepS S o.2.1 o.2.2) S a b = true ↔ S a b = true ∨ ∃ o ∈ r, a = o.2.1 ∧ b = o.2.2 ∧ 0 ≤ o.2.1 ∧ o.2.1 < 4 ∧ 1 ≤ o.2.2 := by
    intro r
    induction r with
    | nil => intro S; simp
    | cons o r ih =>
      intro S
      rw [List.foldl_cons, ih, stepS_eq, Bool.or_eq_true, decide_eq_true_eq]
      simp only [List.mem_cons, exists_eq_or_imp]
      exact or_assoc
  rw [show playS l = l.foldl (fun S o => stepS S o.2.1 o.2.2) noS from rfl, go]
  simp [noS]
theorem stepS_twice (S : Int → Int → Bool) (v m : Int) : stepS (stepS S v m) v m = stepS S v m := by
  funext a b
  rw [stepS_eq, stepS_eq]
  cases S a b <;> simp
/-- the ops in another order -/
def seqO (l : List MOp) (r k : Nat) : List MOp := (List.range k).map (fun i => l.getD ((l.length - 1 - i + r) % l.length) (0, 0, 0))
theorem seqO_succ (l : List MOp) (r k : Nat) : seqO l r (k + 1) = seqO l r k ++ [l.getD ((l.length - 1 - k + r) % l.length) (0, 0, 0)] := by
  unfold seqO
  rw [List.range_succ, List.map_append]; rfl
theorem seqO_mem (l : List MOp) (r : Nat) (hr : r < l.length) (o : MOp) : o ∈ seqO l r l.length ↔ o ∈ l := by
  unfold seqO
  rw [List.mem_map]
  constructor
  · rintro ⟨i, _, rfl⟩
    have hlt : (l.length - 1 - i + r) % l.length < l.length := Nat.mod_lt _ (by omega)
    rw [List.getD_eq_getElem?_getD, List.getElem?_eq_getElem hlt]
    exact List.getElem_mem hlt
  · intro ho
    obtain ⟨j, hj, rfl⟩ := List.getElem_of_mem ho
    by_cases hrj : r ≤ j
    · refine ⟨l.length - 1 + r - j, List.mem_range.2 (by omega), ?_⟩
      rw [show l.length - 1 - (l.length - 1 + r - j) + r = j by omega, Nat.mod_eq_of_lt hj, List.getD_eq_getElem?_getD, List.getElem?_eq_getElem hj]; rfl
    · refine ⟨r - j - 1, List.mem_range.2 (by omega), ?_⟩
      rw [show l.length - 1 - (r - j - 1) + r = l.length + j by omega, Nat.add_mod_left, Nat.mod_eq_of_lt hj, List.getD_eq_getElem?_getD, List.getElem?_eq_getElem hj]; rfl
theorem seqO_play (l : List MOp) (r : Nat) (hr : r < l.length) : playS (seqO l r l.length) = playS l := by
  funext a b
  rw [Bool.eq_iff_iff, playS_eq, playS_eq]
  constructor
  · rintro ⟨o, h1, h2⟩; exact ⟨o, (seqO_mem l r hr o).1 h1, h2⟩
  · rintro ⟨o, h1, h2⟩; exact ⟨o, (seqO_mem l r hr o).2 h1, h2⟩
theorem sorted_uniq : ∀ {a b : List Int}, a.Pairwise (· < ·) → b.Pairwise (· < ·) → (∀ x, x ∈ a ↔ x ∈ b) → a = b
  | [], b, _, _, h => by
    cases b with
    | nil => rfl
    | cons y b => exact absurd ((h y).2 List.mem_cons_self) (by simp)
  | x :: a, b, ha, hb, h => by
    cases b with
    | nil => exact absurd ((h x).1 List.mem_cons_self) (by simp)
    | cons y b =>
      have ha1 : ∀ {z}, z ∈ a → x < z := fun h => List.rel_of_pairwise_cons ha h
      have hb1 : ∀ {z}, z ∈ b → y < z := fun h => List.rel_of_pairwise_cons hb h
      have hxy : x = y := by
        rcases List.mem_cons.1 ((h x).1 List.mem_cons_self) with e | e
        · exact e
        · rcases List.mem_cons.1 ((h y).2 List.mem_cons_self) with e' | e'
          · exact e'.symm
          · have h1 := hb1 e
            have h2 := ha1 e'
            omega
      subst hxy
      rw [sorted_uniq (List.Pairwise.of_cons ha) (List.Pairwise.of_cons hb) fun z => ⟨fun hz => ?_, fun hz => ?_⟩]
      · rcases List.mem_cons.1 ((h z).1 (List.mem_cons_of_mem _ hz)) with e | e
        · have := ha1 hz; omega
        · exact e
      · rcases List.mem_cons.1 ((h z).2 (List.mem_cons_of_mem _ hz)) with e | e
        · have := hb1 hz; omega
        · exact e
theorem SortedOf.uniq {f g : Int → Bool} {a b : List Int} (ha : SortedOf f a) (hb : SortedOf g b) (h : ∀ k, f k = g k) : a = b := sorted_uniq ha.1 hb.1 fun x => by rw [ha.2, hb.2, h]
set_option maxHeartbeats 16000000 in
set_option maxRecDepth 10000 in
theorem morderlaw_ro (a a1 : Option Addr) (n c n1 c1 : Nat) (l : List MOp) (vols : List Int) (x2 : Int) (hx : 0 ≤ x2 ∧ x2 ≤ 18446744073709551615) (hn : n = l.length) (hn1 : n1 = vols.length) (hw : ∀ o ∈ l, (Lit.int .i64 o.2.2).wf = true) :
    RO G 4 [.slice a n c, .slice a1 n1 c1, .int .u64 x2] (fun h => readS a n 3 (l.flatMap encM) h ∧ readI a1 n1 vols h) (.bool true) := by
  refine RO.enter Try.func4 rfl (by decide) rfl Try.ntmps4 rfl (fun A hu hA => ?_) (up_and (up_readS _ _ _ _) (up_readS _ _ _ _))
  have hE : ∀ {L}, A ∈ L → Ent L (readS a n 3 (l.flatMap encM)) := fun m => Ent.mem m hu fun k x => (hA k x).1
  have hE1 : ∀ {L}, A ∈ L → Ent L (readI a1 n1 vols) := fun m => Ent.mem m hu fun k x => (hA k x).2
  repeat (first | refine GD ?_ | refine NW fun _ => ?_)
  refine WL.step rfl (OP.callRO rfl rfl mawake_ro (fun _ _ => trivial) rfl rfl ?_)
  by_cases h200 : 200 < n
  · repeat (first | refine GD ?_ | refine NW fun _ => ?_)
    refine WL.step rfl (OP.callRO rfl rfl mawake_ro (fun _ _ => trivial) rfl rfl ?_)
    repeat (first | refine GD ?_ | refine NW fun _ => ?_)
    exact ret1 rfl ⟨rfl, MM⟩
  by_cases h20 : 20 < n1
  · repeat (first | refine GD ?_ | refine NW fun _ => ?_)
    refine WL.step rfl (OP.callRO rfl rfl mawake_ro (fun _ _ => trivial) rfl rfl ?_)
    repeat (first | refine GD ?_ | refine NW fun _ => ?_)
    exact ret1 rfl ⟨rfl, MM⟩
  by_cases h0 : n = 0
  · subst h0
    repeat (first | refine GD ?_ | refine NW fun _ => ?_)
    refine WL.step rfl (OP.callRO rfl rfl mawake_ro (fun _ _ => trivial) rfl rfl ?_)
    repeat (first | refine GD ?_ | refine NW fun _ => ?_)
    exact ret1 rfl ⟨rfl, MM⟩
  have hn0 : (0 : Int) < n := by omega
  obtain ⟨r, hr⟩ : ∃ r : Nat, (r : Int) = x2 % n := ⟨(x2 % n).toNat, Int.toNat_of_nonneg (Int.emod_nonneg _ (by omega))⟩
  have hrn : r < n := by have := Int.emod_lt_of_pos x2 hn0; omega
  repeat (first | refine GD ?_ | refine NW fun _ => ?_)
  rename_i p q
  rw [← hr]
  refine WC.imp (Imp.trans (mtabNil q) (Imp.cons (mtabNil p))) ?_
  refine WC.loop (σ := Nat) (fun k => k ≤ n)
    (fun k => [(0, .val (.slice a n c)), (1, .val (.slice a1 n1 c1)), (7, .val (.pointer (some ⟨p, 0, none⟩))), (8, .val (.pointer (some ⟨q, 0, none⟩))), (9, .val (.int .i64 r)), (44, .val (.int .i64 n)), (45, .val (.int .i64 k))])
    (fun k => [mtab q (playS (seqO l r k)), mtab p (playS (l.take k)), A]) (fun k => n - k) 0 (Nat.zero_le _) ⟨rfl, rfl, rfl, rfl, rfl, rfl, rfl, trivial⟩ (Imp.refl _) ?_
  rintro k hk
  by_cases hlt : k < n
  · have hlk : k < l.length := by omega
    have hsn : playS (l.take (k + 1)) = stepS (playS (l.take k)) l[k].2.1 l[k].2.2 := by rw [← List.take_append_getElem hlk, playS_snoc]
    obtain ⟨j, hj⟩ : ∃ j, j = (l.length - 1 - k + r) % l.length := ⟨_, rfl⟩
    have hjl : j < l.length := by rw [hj]; exact Nat.mod_lt _ (by omega)
    have hji : (((n : Int) - 1 - (k : Int) + (r : Int)) % (n : Int)) = (j : Int) := by
      rw [hj, hn, show ((l.length : Int) - 1 - (k : Int) + (r : Int)) = ((l.length - 1 - k + r : Nat) : Int) by omega, ← Int.natCast_emod]
    have hsq : playS (seqO l r (k + 1)) = stepS (playS (seqO l r k)) l[j].2.1 l[j].2.2 := by
      rw [seqO_succ, playS_snoc, ← hj, List.getD_eq_getElem?_getD, List.getElem?_eq_getElem hjl]; rfl
    refine WC.fact (Ent.some (hE MM) (by omega)) ?_
    rintro ⟨b, off, rfl⟩
    have hel : ∀ {L} (i : Nat) (v : Value), Nat.blt i 3 = true → (encM l[k])[i]? = some v → A ∈ L → Ent L (cellAt b (off + k * 3 + i) v) := fun i v hi hv m => Ent.elF encM_len (hE m) hlk hi hv
    have helj : ∀ {L}, A ∈ L → Ent L (cellsAt b (off + j * 3) (encM l[j])) := fun m => Ent.elA encM_len (hE m) hjl
    generalize l[k] = o at *
    generalize l[j] = o2 at *
    obtain ⟨kd, v, m⟩ := o
    obtain ⟨kd2, v2, m2⟩ := o2
    dsimp only at hsn hsq
    repeat (first | refine GD ?_ | refine NW fun _ => ?_)
    refine RD 11 12 (_) ?_
    refine WP 0 ?_
    refine WP 1 ?_
    refine WP 2 ?_
    refine WP 3 ?_
    refine WP 4 ?_
    refine VL 5 (.int .i64 v) rfl rfl rfl rfl (.inl ⟨rfl, hel 1 _ rfl rfl MM⟩) ?_
    refine WP 6 ?_
    refine WP 7 ?_
    refine WP 8 ?_
    refine WP 9 ?_
    refine VL 10 (.int .i64 m) rfl rfl rfl rfl (.inl ⟨rfl, hel 2 _ rfl rfl MM⟩) ?_
    refine WH.only 11 rfl rfl (by kernel_rfl) rfl (OP.call (pre := [mtab p (playS (l.take k))]) rfl rfl (mput_ok p _ v m) PS rfl rfl (fun x M hM => ?_))
    obtain ⟨E, rfl⟩ := hM.one
    refine ⟨(fun h => nomatch h), ?_⟩
    refine DN ?_
    refine WC.imp (Imp.dropE E [mtab p (stepS (playS (l.take k)) v m)] _) ?_
    dsimp only [List.cons_append, List.nil_append]
    rw [← hsn]
    repeat (first | refine GD ?_ | refine NW fun _ => ?_)
    rw [hji]
    repeat (first | refine GD ?_ | refine NW fun _ => ?_)
    refine WL.step rfl (OP.loadA (l := encM (kd2, v2, m2)) rfl rfl rfl rfl (helj MM) rfl rfl rfl ?_)
    repeat (first | refine GD ?_ | refine NW fun _ => ?_)
    refine WL.step rfl (OP.call (pre := [mtab q (playS (seqO l r k))]) rfl rfl (mput_ok q _ v2 m2) PS rfl rfl ?_)
    intro x2 M2 hM2
    obtain ⟨E2, rfl⟩ := hM2.one
    refine WL.imp (Imp.dropE E2 [mtab q (stepS (playS (seqO l r k)) v2 m2)] _) ?_
    dsimp only [List.cons_append, List.nil_append]
    repeat (first | refine GD ?_ | refine NW fun _ => ?_)
    refine WL.step rfl (OP.call (pre := [mtab q (stepS (playS (seqO l r k)) v2 m2)]) rfl rfl (mput_ok q _ v2 m2) PS rfl rfl ?_)
    intro x3 M3 hM3
    obtain ⟨E3, rfl⟩ := hM3.one
    rw [stepS_twice, ← hsq]
    repeat (first | refine GD ?_ | refine NW fun _ => ?_)
    exact ⟨k + 1, by omega, by omega, ⟨rfl, rfl, rfl, rfl, rfl, rfl, rfl, trivial⟩, Imp.trans (Imp.dropE E3 [mtab q (playS (seqO l r (k + 1)))] _) II⟩
  obtain rfl : k = l.length := by omega
  have hF := playFew hw (by omega)
  rw [List.take_length, seqO_play l r (by omega)]
  generalize playS l = S at *
  repeat (first | refine GD ?_ | refine NW fun _ => ?_)
  refine WC.imp (Imp.nilS 3 1) ?_
  refine WC.loop (σ := Nat × Option Addr × Nat) (fun s => s.1 ≤ n1)
    (fun s => [(1, .val (.slice a1 n1 c1)), (7, .val (.pointer (some ⟨p, 0, none⟩))), (8, .val (.pointer (some ⟨q, 0, none⟩))), (12, .val (.slice s.2.1 s.1 s.2.2)), (87, .val (.int .i64 n1)), (88, .val (.int .i64 s.1))])
    (fun s => [ownS s.2.1 s.1 s.2.2 3 1 ((vols.reverse.take s.1).map iV), mtab q S, mtab p S, A]) (fun s => n1 - s.1) (0, none, 0) (Nat.zero_le _) ⟨rfl, rfl, rfl, rfl, rfl, rfl, trivial⟩ II ?_
  rintro ⟨i, a12, cap12⟩ hi
  dsimp only at hi ⊢
  by_cases hli : i < n1
  · have hlv : i < vols.reverse.length := by rw [List.length_reverse]; omega
    have hlv2 : n1 - 1 - i < vols.length := by omega
    have hge : vols.reverse[i] = vols[n1 - 1 - i] := by rw [List.getElem_reverse]; congr 1; omega
    have hsn : vols.reverse.take (i + 1) = vols.reverse.take i ++ [vols[n1 - 1 - i]] := by rw [← List.take_append_getElem hlv, hge]
    have hlen : (vols.reverse.take i).length = i := by rw [List.length_take]; omega
    refine WC.fact (Ent.some (hE1 MM) (by omega)) ?_
    rintro ⟨b1, off1, rfl⟩
    have hel1 : ∀ {L}, A ∈ L → Ent L (cellAt b1 (off1 + (n1 - 1 - i) * 1) (iV vols[n1 - 1 - i])) := fun m => Ent.elem (hE1 m) rfl (int_get hlv2)
    have hix : (n1 : Int) - 1 - (i : Int) = ((n1 - 1 - i : Nat) : Int) := by omega
    generalize vols[n1 - 1 - i] = v at *
    generalize n1 - 1 - i = u at *
    repeat (first | refine GD ?_ | refine NW fun _ => ?_)
    rw [hix]
    repeat (first | refine GD ?_ | refine NW fun _ => ?_)
    refine WL.step rfl (OP.load1 (v := .int .i64 v) rfl rfl rfl rfl (hel1 MM) rfl rfl ?_)
    repeat (first | refine GD ?_ | refine NW fun _ => ?_)
    refine WL.step rfl (OP.append (ds := [iV v]) rfl rfl rfl rfl rfl rfl rfl rfl rfl P1 (Ent.own MM) rfl (by omega) (by omega) rfl rfl (fun a' cap' => ?_))
    repeat (first | refine GD ?_ | refine NW fun _ => ?_)
    exact ⟨(i + 1, a', cap'), by dsimp only; omega, by dsimp only; omega, ⟨rfl, rfl, rfl, rfl, rfl, rfl, trivial⟩, by dsimp only; rw [hsn, List.map_append]; exact II⟩
  obtain rfl : i = n1 := by omega
  rw [List.take_of_length_le (by rw [List.length_reverse]; omega)]
  repeat (first | refine GD ?_ | refine NW fun _ => ?_)
  refine WC.loop (σ := Nat) (fun j => j ≤ 4)
    (fun j => [(1, .val (.slice a1 i c1)), (7, .val (.pointer (some ⟨p, 0, none⟩))), (8, .val (.pointer (some ⟨q, 0, none⟩))), (12, .val (.slice a12 i cap12)), (103, .val (.int .i64 j))])
    (fun _ => [ownS a12 i cap12 3 1 (vols.reverse.map iV), mtab q S, mtab p S, A]) (fun j => 4 - j) 0 (Nat.zero_le _) ⟨rfl, rfl, rfl, rfl, rfl, trivial⟩ II ?_
  rintro j hj
  by_cases hj4 : j < 4
  · repeat (first | refine GD ?_ | refine NW fun _ => ?_)
    refine WL.step rfl (OP.callRT rfl rfl (mof_rt p S j hF) (Ent.mem (A := mtab p S) MM (up_mtab _ _) fun _ a => a) rfl rfl ?_)
    rintro _ _ ⟨aO, capO, o, ho, rfl, rfl⟩
    repeat (first | refine GD ?_ | refine NW fun _ => ?_)
    refine WL.step rfl (OP.callRT rfl rfl (mof_rt q S j hF) (Ent.mem (A := mtab q S) MM (up_mtab _ _) fun _ a => a) rfl rfl ?_)
    rintro _ _ ⟨aP, capP, o2, ho2, rfl, rfl⟩
    have hol := sorted_few hF ho
    obtain rfl : o = o2 := ho.uniq ho2 fun _ => rfl
    refine WL.step rfl (OP.callRO rfl rfl (msame_ro aO aP o.length capO o.length capP o o rfl rfl (by omega)) (Ent.and (Ent.own (T := 3) (cap := capO) MM) (Ent.own (T := 3) (cap := capP) MM)) rfl rfl ?_)
    rw [decide_eq_true (rfl : o = o)]
    repeat (first | refine GD ?_ | refine NW fun _ => ?_)
    exact ⟨j + 1, by omega, by omega, ⟨rfl, rfl, rfl, rfl, rfl, trivial⟩, II⟩
  repeat (first | refine GD ?_ | refine NW fun _ => ?_)
  refine WL.step rfl (OP.callRT rfl rfl (mnewest_rt p S a1 i c1 vols hn1 (by omega)) (Ent.and (Ent.mem (A := mtab p S) MM (up_mtab _ _) fun _ a => a) (hE1 MM)) rfl rfl ?_)
  rintro _ _ ⟨k1, hk1, rfl, rfl⟩
  repeat (first | refine GD ?_ | refine NW fun _ => ?_)
  refine WL.step rfl (OP.callRT rfl rfl (mnewest_rt q S a12 i cap12 vols.reverse (by rw [List.length_reverse]; exact hn1) (by omega)) (Ent.and (Ent.mem (A := mtab q S) MM (up_mtab _ _) fun _ a => a) (Ent.own (T := 3) (cap := cap12) MM)) rfl rfl ?_)
  rintro _ _ ⟨k2, hk2, rfl, rfl⟩
  have hkk : k1 = k2 := Int.le_antisymm
    (isNew_le hk1 hk2 fun m h1 h2 => ⟨fun e => h1 (List.reverse_eq_nil_iff.1 e), lacks_nil (fun v h => List.mem_reverse.1 h) (fun _ h => h) h2⟩)
    (isNew_le hk2 hk1 fun m h1 h2 => ⟨fun e => h1 (by rw [e]; rfl), lacks_nil (fun v h => List.mem_reverse.2 h) (fun _ h => h) h2⟩)
  subst hkk
  repeat (first | refine GD ?_ | refine NW fun _ => ?_)
  exact ret1 rfl ⟨by simp, MM⟩
end Go.Proofs.Ytacgheafbkfciaa
namespace Go.Proofs.Ytacgheafbkfciaa
open Go Go.GL Go.ChangeShapes Go.WideShapes Go.ChangeAt Go.RowKit
open Go.ChangeMaps (open_string shut_string)
set_option linter.unusedVariables false

theorem ownMarksOrder : ownKnob Try.prog.godebug = none := by kernel_rfl
theorem laidOutMarksOrder : laidOutB Try.prog = true := by kernel_rfl
set_option maxRecDepth 100000 in
theorem liftedMarksOrder (os : Os) (started : os.Started) (H : Type) (enc : TypeId × Value → H) :
    ReturnsInHanded {} Try.checked os 4 .any (Rows.marksOrderSpec.pre6 enc Try.prog Try.f4 Rows.marksOrderRow.domain false) (Rows.marksOrderSpec.post enc Try.prog Try.f4 false true false false) := by
  refine returnsInHanded_of_change (C := Try.checked) ownMarksOrder started (by kernel_rfl) Try.func4
    (ChangeSpec.witness6 (enc := enc) (C := Try.checked) false ⟨#[], #[.slice none 0 0, .slice none 0 0, .int .u64 0], []⟩ 8 (by kernel_rfl) (by kernel_rfl) (by kernel_rfl) (by kernel_rfl)) ?_
  intro W base args ds gs before hval0 hW hcnd _
  have hval : ∀ (j : Nat) t v, Try.f4.params[j]? = some t → args[j]? = some v → Value.okWide Try.prog W .any base t v := hval0
  have hW' := hW
  obtain ⟨p, q, hA0, hV, rfl, hfz, hnd⟩ := hW
  have hA : DataW.TrodAll enc Try.prog W 0 (fun _ => true) true Try.f4.params.toList args.toList ds p := hA0
  rw [Try.params4] at hA hval
  obtain ⟨v0, vs0, d0, ds0, p0, q0, hargs, rfl, rfl, h0, r0⟩ := trodAll_cons hA
  obtain ⟨v1, vs1, d1, ds1, p1, q1, rfl, rfl, rfl, h1, r1⟩ := trodAll_cons r0
  obtain ⟨v2, vs2, d2, ds2, p2, q2, rfl, rfl, rfl, h2, r2⟩ := trodAll_cons r1
  obtain ⟨rfl, rfl, rfl⟩ := trodAll_nil r2
  obtain rfl : args = #[v0, v1, v2] := by cases args; simp_all
  obtain ⟨rfl, rfl⟩ := trodVars_none hV
  have k0 := h0
  obtain ⟨a0, len0, cap0, rw0, rfl, hr0, hc0, hm0, ho0, R0⟩ := open_row (n := 8) (l := [.int .i64, .int .i64, .int .i64]) Try.underlying22 (by kernel_rfl) (by kernel_rfl) (hval 0 22 v0 rfl rfl) h0
  obtain ⟨l0, hl0, hn0, w0⟩ := rows_enc (fun x hx => mop_of (ho0 x hx))
  rw [hl0] at R0
  rw [hr0] at hn0
  have k1 := h1
  obtain ⟨a1, len1, cap1, rw1, rfl, hr1, hc1, hm1, ho1, R1⟩ := open_row (n := 4) (l := [.int .i64]) Try.underlying23 (by kernel_rfl) (by kernel_rfl) (hval 1 23 v1 rfl rfl) h1
  obtain ⟨l1, hl1, hn1, w1⟩ := rows_ints ho1
  rw [hl1] at R1
  rw [hr1] at hn1
  have k2 := h2
  obtain ⟨a2, rfl, _, _, w2⟩ := open_int Try.underlying38 (hval 2 38 v2 rfl rfl) h2
  clear hA0 hval0
  refine ((morderlaw_ro a0 a1 len0 cap0 len1 cap1 l0 l1 a2 (wf_u64 w2) hn0.symm hn1.symm w0).calls W ⟨R0, R1⟩).mono fun e W' ⟨he, ext⟩ => ?_
  subst he
  exact ⟨_, rfl, _, _, _, [], _, [], hW', trodAll_mk1 (shut_bool Try.underlying4 _), (trodAll_cons_mk (GL.Ext.trod laidOutMarksOrder (by kernel_rfl) (of_decide_eq_true (by kernel_rfl)) k0 ext) (trodAll_cons_mk (GL.Ext.trod laidOutMarksOrder (by kernel_rfl) (of_decide_eq_true (by kernel_rfl)) k1 ext) (trodAll_cons_mk (GL.Ext.trod laidOutMarksOrder (by kernel_rfl) (of_decide_eq_true (by kernel_rfl)) k2 ext) trodAll_mk0))), rfl, ext.keptBut _, fun h => by cases h⟩
theorem overMarksOrder : Rows.marksOrderRow.holds Try.pinned (OpenSpec.ofChange Rows.marksOrderSpec) :=
  OpenClaim.holds_of_wide 4 Try.f4 rfl rfl rfl rfl rfl rfl rfl ⟨rfl, rfl, rfl, rfl, rfl⟩ rfl rfl rfl rfl rfl (by kernel_rfl) Try.func4 (by kernel_rfl)
    (of_decide_eq_true (by kernel_rfl)) (by unfold Func.isWrapper; first | (rw [if_pos (by decide +kernel)]; kernel_rfl) | (rw [if_neg (by decide +kernel)]; exact ⟨rfl, rfl⟩))
    (fun os started H enc _ => liftedMarksOrder os started H enc)
theorem marksOrder_holds : Rows.MarksOrderSaid := overMarksOrder
end Go.Proofs.Ytacgheafbkfciaa
