/-
  The law MarksNewest holds: whatever the input, the Go function returns true, and each argument reads as it did. Conditions: none beyond the statement's own.
-/
import Derived.Test.YtacgheafbkfciaaZMk7
import Derived.Test.YtacgheafbkfciaaZMk12
import Derived.Test.YtacgheafbkfciaaRows
import Derived.Test.YtacgheafbkfciaaZMk5
/- Contracts of functions of the given program, and plain laws on what they compute: parts of the proofs of laws. -/

namespace Go.Proofs.Ytacgheafbkfciaa
open Go Go.GL

theorem isNew_le {S S' : Int → Int → Bool} {vols vols' : List Int} {k k' : Int} (hk : IsNew S vols k) (hk' : IsNew S' vols' k') (h : ∀ m, vols ≠ [] → lacksS S m vols = [] → vols' ≠ [] ∧ lacksS S' m vols' = []) : k ≤ k' := by
  obtain ⟨h1, h2, _⟩ := hk
  obtain ⟨h4, _, h6⟩ := hk'
  rcases h2 with h2 | ⟨h2, h3⟩
  · omega
  · by_cases hz : 0 < k
    · obtain ⟨g1, g2⟩ := h k h2 h3
      exact h6 k hz g1 g2
    · omega
theorem lacks_nil {S S' : Int → Int → Bool} {vols vols' : List Int} {m : Int} (h : ∀ v ∈ vols', v ∈ vols) (hs : ∀ v, rowS S v m = true → rowS S' v m = true) (hl : lacksS S m vols = []) : lacksS S' m vols' = [] := by
  unfold lacksS
  rw [List.filter_eq_nil_iff]
  intro v hv
  rw [hs v (lacks_head hl (h v hv))]
  decide
theorem sorted_few {S : Int → Int → Bool} {fl : List Int} (hF : Few S fl) {v : Int} {o : List Int} (ho : SortedOf (rowS S v) o) : o.length ≤ 100000 := by
  refine Nat.le_trans (length_le_of_mem (b := fl) (ho.1.imp fun h e => by omega) (fun k hk => ?_)) hF.len
  have := (ho.2 k).1 hk
  unfold rowS at this
  split at this
  · exact hF.mem v k this
  · cases this
theorem allOne_ints : ∀ (l : List Int), allOne (l.map iV) = true
  | [] => rfl
  | _ :: l => allOne_ints l
theorem stepS_mono {S : Int → Int → Bool} {v m : Int} (a b : Int) (h : S a b = true) : stepS S v m a b = true := by rw [stepS_eq, h]; rfl
set_option maxHeartbeats 16000000 in
set_option maxRecDepth 10000 in
theorem mnewestlaw_ro (a a1 : Option Addr) (n c n1 c1 : Nat) (l : List MOp) (vols : List Int) (x2 x3 : Int) (hn : n = l.length) (hn1 : n1 = vols.length) (hw : ∀ o ∈ l, (Lit.int .i64 o.2.2).wf = true) :
    RO G 3 [.slice a n c, .slice a1 n1 c1, .int .i64 x2, .int .i64 x3] (fun h => readS a n 3 (l.flatMap encM) h ∧ readI a1 n1 vols h) (.bool true) := by
  refine RO.enter Try.func3 rfl (by decide) rfl Try.ntmps3 rfl (fun A hu hA => ?_) (up_and (up_readS _ _ _ _) (up_readS _ _ _ _))
  have hE : ∀ {L}, A ∈ L → Ent L (readS a n 3 (l.flatMap encM)) := fun m => Ent.mem m hu fun k x => (hA k x).1
  have hE1 : ∀ {L}, A ∈ L → Ent L (readI a1 n1 vols) := fun m => Ent.mem m hu fun k x => (hA k x).2
  repeat (first | refine GD ?_ | refine NW fun _ => ?_)
  refine WL.step rfl (OP.callRO rfl rfl mawake_ro (fun _ _ => trivial) rfl rfl ?_)
  by_cases h200 : 200 < n
  · repeat (first | refine GD ?_ | refine NW fun _ => ?_)
    refine WL.step rfl (OP.callRO rfl rfl mawake_ro (fun _ _ => trivial) rfl rfl ?_)
    repeat (first | refine GD ?_ | refine NW fun _ => ?_)
    exact ret1 rfl ⟨rfl, MM⟩
  by_cases h20 : 20 < n1
  · repeat (first | refine GD ?_ | refine NW fun _ => ?_)
    refine WL.step rfl (OP.callRO rfl rfl mawake_ro (fun _ _ => trivial) rfl rfl ?_)
    repeat (first | refine GD ?_ | refine NW fun _ => ?_)
    exact ret1 rfl ⟨rfl, MM⟩
  repeat (first | refine GD ?_ | refine NW fun _ => ?_)
  rename_i p
  refine WC.imp (mtabNil p) ?_
  refine WC.loop (σ := Nat) (fun k => k ≤ n)
    (fun k => [(0, .val (.slice a n c)), (1, .val (.slice a1 n1 c1)), (2, .val (.int .i64 x2)), (3, .val (.int .i64 x3)), (9, .val (.pointer (some ⟨p, 0, none⟩))), (31, .val (.int .i64 n)), (32, .val (.int .i64 k))])
    (fun k => [mtab p (playS (l.take k)), A]) (fun k => n - k) 0 (Nat.zero_le _) ⟨rfl, rfl, rfl, rfl, rfl, rfl, rfl, trivial⟩ (Imp.refl _) ?_
  rintro k hk
  by_cases hlt : k < n
  · have hlk : k < l.length := by omega
    have hsn : playS (l.take (k + 1)) = stepS (playS (l.take k)) l[k].2.1 l[k].2.2 := by rw [← List.take_append_getElem hlk, playS_snoc]
    refine WC.fact (Ent.some (hE MM) (by omega)) ?_
    rintro ⟨b, off, rfl⟩
    have hel : ∀ {L} (i : Nat) (v : Value), Nat.blt i 3 = true → (encM l[k])[i]? = some v → A ∈ L → Ent L (cellAt b (off + k * 3 + i) v) := fun i v hi hv m => Ent.elF encM_len (hE m) hlk hi hv
    generalize l[k] = o at *
    obtain ⟨kd, v, m⟩ := o
    dsimp only at hsn
    repeat (first | refine GD ?_ | refine NW fun _ => ?_)
    refine RD 11 12 (_) ?_
    refine WP 0 ?_
    refine WP 1 ?_
    refine WP 2 ?_
    refine WP 3 ?_
    refine WP 4 ?_
    refine VL 5 (.int .i64 v) rfl rfl rfl rfl (.inl ⟨rfl, hel 1 _ rfl rfl MM⟩) ?_
    refine WP 6 ?_
    refine WP 7 ?_
    refine WP 8 ?_
    refine WP 9 ?_
    refine VL 10 (.int .i64 m) rfl rfl rfl rfl (.inl ⟨rfl, hel 2 _ rfl rfl MM⟩) ?_
    refine WH.only 11 rfl rfl (by kernel_rfl) rfl (OP.call (pre := [mtab p (playS (l.take k))]) rfl rfl (mput_ok p _ v m) PS rfl rfl (fun x M hM => ?_))
    obtain ⟨E, rfl⟩ := hM.one
    refine ⟨(fun h => nomatch h), ?_⟩
    refine DN ?_
    repeat (first | refine GD ?_ | refine NW fun _ => ?_)
    exact ⟨k + 1, by omega, by omega, ⟨rfl, rfl, rfl, rfl, rfl, rfl, rfl, trivial⟩, by rw [hsn]; exact Imp.dropE E [mtab p (stepS (playS (l.take k)) v m)] [A]⟩
  obtain rfl : k = l.length := by omega
  have hF := playFew hw (by omega)
  rw [List.take_length]
  generalize playS l = S at *
  repeat (first | refine GD ?_ | refine NW fun _ => ?_)
  refine WL.step rfl (OP.callRT rfl rfl (mnewest_rt p S a1 n1 c1 vols hn1 (by omega)) (Ent.and (Ent.mem (A := mtab p S) MM (up_mtab _ _) fun _ a => a) (hE1 MM)) rfl rfl ?_)
  rintro _ _ ⟨best, hbest, rfl, rfl⟩
  by_cases hb : 0 < best
  · have hz : lacksS S best vols = [] := by
      rcases hbest.2.1 with h | h
      · omega
      · exact h.2
    have hz2 : ((lacksS S best vols).length : Int) = 0 := by rw [hz]; rfl
    repeat (first | refine GD ?_ | refine NW fun _ => ?_)
    refine WL.guardT rfl rfl rfl rfl (OP.callRT rfl rfl (mlacks_rt p S best a1 n1 c1 vols hn1 (by omega)) (Ent.and (Ent.mem (A := mtab p S) MM (up_mtab _ _) fun _ a => a) (hE1 MM)) rfl rfl ?_)
    rintro _ _ ⟨aL, capL, rfl, rfl⟩
    repeat (first | refine GD ?_ | refine NW fun _ => ?_)
    refine WC.loop (σ := Nat) (fun i => i ≤ n1)
      (fun i => [(0, .val (.slice a n c)), (1, .val (.slice a1 n1 c1)), (2, .val (.int .i64 x2)), (3, .val (.int .i64 x3)), (9, .val (.pointer (some ⟨p, 0, none⟩))), (11, .val (.int .i64 best)), (62, .val (.int .i64 n1)), (63, .val (.int .i64 i))])
      (fun _ => [mtab p S, A]) (fun i => n1 - i) 0 (Nat.zero_le _) ⟨rfl, rfl, rfl, rfl, rfl, rfl, rfl, rfl, trivial⟩ II ?_
    rintro i hi
    by_cases hli : i < n1
    · have hlv : i < vols.length := by omega
      have hne : vols ≠ [] := fun e => by rw [e] at hlv; exact Nat.not_lt_zero _ hlv
      refine WC.fact (Ent.some (hE1 MM) (by omega)) ?_
      rintro ⟨b1, off1, rfl⟩
      have hel1 : ∀ {L}, A ∈ L → Ent L (cellAt b1 (off1 + i * 1) (iV vols[i])) := fun m => Ent.elem (hE1 m) rfl (int_get hlv)
      generalize vols[i] = v at *
      repeat (first | refine GD ?_ | refine NW fun _ => ?_)
      refine WL.step rfl (OP.load1 (v := .int .i64 v) rfl rfl rfl rfl (hel1 MM) rfl rfl ?_)
      refine WL.step rfl (OP.callRT rfl rfl (mof_rt p S v hF) (Ent.mem (A := mtab p S) MM (up_mtab _ _) fun _ a => a) rfl rfl ?_)
      rintro _ _ ⟨aO, capO, o, ho, rfl, rfl⟩
      have holen : o.length ≤ 100000 := sorted_few hF ho
      repeat (first | refine GD ?_ | refine NW fun _ => ?_)
      refine WC.loop (σ := Nat) (fun j => j ≤ o.length)
        (fun j => [(0, .val (.slice a n c)), (1, .val (.slice (some ⟨b1, off1, none⟩) n1 c1)), (2, .val (.int .i64 x2)), (3, .val (.int .i64 x3)), (9, .val (.pointer (some ⟨p, 0, none⟩))), (11, .val (.int .i64 best)), (62, .val (.int .i64 n1)), (63, .val (.int .i64 i)), (12, .val (.int .i64 i)), (13, .val (.slice aO o.length capO)), (73, .val (.int .i64 o.length)), (74, .val (.int .i64 j))])
        (fun _ => [ownS aO o.length capO 3 1 (o.map iV), mtab p S, A]) (fun j => o.length - j) 0 (Nat.zero_le _) ⟨rfl, rfl, rfl, rfl, rfl, rfl, rfl, rfl, rfl, rfl, rfl, rfl, trivial⟩ II ?_
      rintro j hj
      by_cases hlj : j < o.length
      · refine WC.fact (Ent.some (Ent.own (T := 3) (cap := capO) (cs := o.map iV) MM) (by omega)) ?_
        rintro ⟨bO, offO, rfl⟩
        have helO : ∀ {L}, ownS (some ⟨bO, offO, none⟩) o.length capO 3 1 (o.map iV) ∈ L → Ent L (cellAt bO (offO + j * 1) (iV o[j])) := fun m => Ent.elem (Ent.own m) rfl (int_get hlj)
        generalize o[j] = x at *
        repeat (first | refine GD ?_ | refine NW fun _ => ?_)
        refine WL.step rfl (OP.load1 (v := .int .i64 x) rfl rfl rfl rfl (helO MM) rfl rfl ?_)
        by_cases hxb : best < x
        rotate_left
        · repeat (first | refine GD ?_ | refine NW fun _ => ?_)
          exact ⟨j + 1, by omega, by omega, ⟨rfl, rfl, rfl, rfl, rfl, rfl, rfl, rfl, rfl, rfl, rfl, rfl, trivial⟩, II⟩
        have hlne : lacksS S x vols ≠ [] := fun h => by
          have := hbest.2.2 x (by have := hbest.1; omega) hne h
          omega
        have hll : ¬ ((lacksS S x vols).length : Int) = 0 := fun h => hlne (List.eq_nil_of_length_eq_zero (by omega))
        repeat (first | refine GD ?_ | refine NW fun _ => ?_)
        refine WL.guardT rfl rfl rfl rfl (OP.load1 (v := .int .i64 x) rfl rfl rfl rfl (helO MM) rfl rfl ?_)
        repeat (first | refine GD ?_ | refine NW fun _ => ?_)
        refine WL.guardT rfl rfl rfl rfl (OP.callRT rfl rfl (mlacks_rt p S x _ n1 c1 vols hn1 (by omega)) (Ent.and (Ent.mem (A := mtab p S) MM (up_mtab _ _) fun _ a => a) (hE1 MM)) rfl rfl ?_)
        rintro _ _ ⟨aL, capL, rfl, rfl⟩
        repeat (first | refine GD ?_ | refine NW fun _ => ?_)
        exact ⟨j + 1, by omega, by omega, ⟨rfl, rfl, rfl, rfl, rfl, rfl, rfl, rfl, rfl, rfl, rfl, rfl, trivial⟩, II⟩
      · repeat (first | refine GD ?_ | refine NW fun _ => ?_)
        exact ⟨i + 1, by omega, by omega, ⟨rfl, rfl, rfl, rfl, rfl, rfl, rfl, rfl, trivial⟩, II⟩
    by_cases h0 : 0 < n1
    · repeat (first | refine GD ?_ | refine NW fun _ => ?_)
      refine WL.guardT rfl rfl rfl rfl (OP.lit0 (size := 1) rfl rfl rfl rfl rfl rfl fun b5 => ?_)
      repeat (first | refine GD ?_ | refine NW fun _ => ?_)
      refine WL.guardT rfl rfl rfl rfl (OP.append (ds := vols.map iV) rfl rfl rfl rfl rfl rfl rfl rfl rfl P1 (hE1 MM) (allOne_ints vols) (by omega) (by omega) rfl rfl (fun a6 cap6 => ?_))
      repeat (first | refine GD ?_ | refine NW fun _ => ?_)
      refine WL.guardT rfl rfl rfl rfl (OP.sliceLit (c := [iV x2]) rfl rfl rfl rfl rfl rfl rfl rfl (fun b7 => ?_))
      refine WL.guardT rfl rfl rfl rfl (OP.append (ds := [iV x2]) rfl rfl rfl rfl rfl rfl rfl rfl rfl P1 (Ent.own MM) rfl (by omega) (by omega) rfl rfl (fun a8 cap8 => ?_))
      refine WL.guardT rfl rfl rfl rfl (OP.callRT rfl rfl (mnewest_rt p S a8 (0 + n1 + 1) cap8 (vols ++ [x2]) (by simp [hn1]) (by omega)) (Ent.and (Ent.mem (A := mtab p S) MM (up_mtab _ _) fun _ a => a) (by rw [readI, List.map_append]; exact Ent.own MM)) rfl rfl ?_)
      rintro _ _ ⟨k2, hk2, rfl, rfl⟩
      have hle2 : ¬ best < k2 := by
        have := isNew_le hk2 hbest fun m h1 h2 => ⟨fun e => by rw [e] at hn1; simp at hn1; omega, lacks_nil (fun v h => List.mem_append_left _ h) (fun _ h => h) h2⟩
        omega
      repeat (first | refine GD ?_ | refine NW fun _ => ?_)
      refine WL.step rfl (OP.call (pre := [mtab p S]) rfl rfl (mput_ok p _ x2 x3) PS rfl rfl ?_)
      intro x M hM
      obtain ⟨E, rfl⟩ := hM.one
      repeat (first | refine GD ?_ | refine NW fun _ => ?_)
      refine WL.imp (Imp.dropE E [mtab p (stepS S x2 x3)] _) ?_
      dsimp only [List.cons_append, List.nil_append]
      refine WL.step rfl (OP.callRT rfl rfl (mnewest_rt p (stepS S x2 x3) a1 n1 c1 vols hn1 (by omega)) (Ent.and (Ent.mem (A := mtab p (stepS S x2 x3)) MM (up_mtab _ _) fun _ a => a) (hE1 MM)) rfl rfl ?_)
      rintro _ _ ⟨k3, hk3, rfl, rfl⟩
      have hle : best ≤ k3 := isNew_le hbest hk3 fun m h1 h2 => ⟨h1, lacks_nil (fun _ h => h) (fun v h => rowS_mono stepS_mono v m h) h2⟩
      repeat (first | refine GD ?_ | refine NW fun _ => ?_)
      exact ret1 rfl ⟨rfl, MM⟩
    · repeat (first | refine GD ?_ | refine NW fun _ => ?_)
      refine WL.step rfl (OP.call (pre := [mtab p S]) rfl rfl (mput_ok p _ x2 x3) PS rfl rfl ?_)
      intro x M hM
      obtain ⟨E, rfl⟩ := hM.one
      repeat (first | refine GD ?_ | refine NW fun _ => ?_)
      refine WL.imp (Imp.dropE E [mtab p (stepS S x2 x3)] _) ?_
      dsimp only [List.cons_append, List.nil_append]
      refine WL.step rfl (OP.callRT rfl rfl (mnewest_rt p (stepS S x2 x3) a1 n1 c1 vols hn1 (by omega)) (Ent.and (Ent.mem (A := mtab p (stepS S x2 x3)) MM (up_mtab _ _) fun _ a => a) (hE1 MM)) rfl rfl ?_)
      rintro _ _ ⟨k3, hk3, rfl, rfl⟩
      have hle : best ≤ k3 := isNew_le hbest hk3 fun m h1 h2 => ⟨h1, lacks_nil (fun _ h => h) (fun v h => rowS_mono stepS_mono v m h) h2⟩
      repeat (first | refine GD ?_ | refine NW fun _ => ?_)
      exact ret1 rfl ⟨rfl, MM⟩
  · repeat (first | refine GD ?_ | refine NW fun _ => ?_)
    refine WC.loop (σ := Nat) (fun i => i ≤ n1)
      (fun i => [(0, .val (.slice a n c)), (1, .val (.slice a1 n1 c1)), (2, .val (.int .i64 x2)), (3, .val (.int .i64 x3)), (9, .val (.pointer (some ⟨p, 0, none⟩))), (11, .val (.int .i64 best)), (62, .val (.int .i64 n1)), (63, .val (.int .i64 i))])
      (fun _ => [mtab p S, A]) (fun i => n1 - i) 0 (Nat.zero_le _) ⟨rfl, rfl, rfl, rfl, rfl, rfl, rfl, rfl, trivial⟩ II ?_
    rintro i hi
    by_cases hli : i < n1
    · have hlv : i < vols.length := by omega
      have hne : vols ≠ [] := fun e => by rw [e] at hlv; exact Nat.not_lt_zero _ hlv
      refine WC.fact (Ent.some (hE1 MM) (by omega)) ?_
      rintro ⟨b1, off1, rfl⟩
      have hel1 : ∀ {L}, A ∈ L → Ent L (cellAt b1 (off1 + i * 1) (iV vols[i])) := fun m => Ent.elem (hE1 m) rfl (int_get hlv)
      generalize vols[i] = v at *
      repeat (first | refine GD ?_ | refine NW fun _ => ?_)
      refine WL.step rfl (OP.load1 (v := .int .i64 v) rfl rfl rfl rfl (hel1 MM) rfl rfl ?_)
      refine WL.step rfl (OP.callRT rfl rfl (mof_rt p S v hF) (Ent.mem (A := mtab p S) MM (up_mtab _ _) fun _ a => a) rfl rfl ?_)
      rintro _ _ ⟨aO, capO, o, ho, rfl, rfl⟩
      have holen : o.length ≤ 100000 := sorted_few hF ho
      repeat (first | refine GD ?_ | refine NW fun _ => ?_)
      refine WC.loop (σ := Nat) (fun j => j ≤ o.length)
        (fun j => [(0, .val (.slice a n c)), (1, .val (.slice (some ⟨b1, off1, none⟩) n1 c1)), (2, .val (.int .i64 x2)), (3, .val (.int .i64 x3)), (9, .val (.pointer (some ⟨p, 0, none⟩))), (11, .val (.int .i64 best)), (62, .val (.int .i64 n1)), (63, .val (.int .i64 i)), (12, .val (.int .i64 i)), (13, .val (.slice aO o.length capO)), (73, .val (.int .i64 o.length)), (74, .val (.int .i64 j))])
        (fun _ => [ownS aO o.length capO 3 1 (o.map iV), mtab p S, A]) (fun j => o.length - j) 0 (Nat.zero_le _) ⟨rfl, rfl, rfl, rfl, rfl, rfl, rfl, rfl, rfl, rfl, rfl, rfl, trivial⟩ II ?_
      rintro j hj
      by_cases hlj : j < o.length
      · refine WC.fact (Ent.some (Ent.own (T := 3) (cap := capO) (cs := o.map iV) MM) (by omega)) ?_
        rintro ⟨bO, offO, rfl⟩
        have helO : ∀ {L}, ownS (some ⟨bO, offO, none⟩) o.length capO 3 1 (o.map iV) ∈ L → Ent L (cellAt bO (offO + j * 1) (iV o[j])) := fun m => Ent.elem (Ent.own m) rfl (int_get hlj)
        generalize o[j] = x at *
        repeat (first | refine GD ?_ | refine NW fun _ => ?_)
        refine WL.step rfl (OP.load1 (v := .int .i64 x) rfl rfl rfl rfl (helO MM) rfl rfl ?_)
        by_cases hxb : best < x
        rotate_left
        · repeat (first | refine GD ?_ | refine NW fun _ => ?_)
          exact ⟨j + 1, by omega, by omega, ⟨rfl, rfl, rfl, rfl, rfl, rfl, rfl, rfl, rfl, rfl, rfl, rfl, trivial⟩, II⟩
        have hlne : lacksS S x vols ≠ [] := fun h => by
          have := hbest.2.2 x (by have := hbest.1; omega) hne h
          omega
        have hll : ¬ ((lacksS S x vols).length : Int) = 0 := fun h => hlne (List.eq_nil_of_length_eq_zero (by omega))
        repeat (first | refine GD ?_ | refine NW fun _ => ?_)
        refine WL.guardT rfl rfl rfl rfl (OP.load1 (v := .int .i64 x) rfl rfl rfl rfl (helO MM) rfl rfl ?_)
        repeat (first | refine GD ?_ | refine NW fun _ => ?_)
        refine WL.guardT rfl rfl rfl rfl (OP.callRT rfl rfl (mlacks_rt p S x _ n1 c1 vols hn1 (by omega)) (Ent.and (Ent.mem (A := mtab p S) MM (up_mtab _ _) fun _ a => a) (hE1 MM)) rfl rfl ?_)
        rintro _ _ ⟨aL, capL, rfl, rfl⟩
        repeat (first | refine GD ?_ | refine NW fun _ => ?_)
        exact ⟨j + 1, by omega, by omega, ⟨rfl, rfl, rfl, rfl, rfl, rfl, rfl, rfl, rfl, rfl, rfl, rfl, trivial⟩, II⟩
      · repeat (first | refine GD ?_ | refine NW fun _ => ?_)
        exact ⟨i + 1, by omega, by omega, ⟨rfl, rfl, rfl, rfl, rfl, rfl, rfl, rfl, trivial⟩, II⟩
    by_cases h0 : 0 < n1
    · repeat (first | refine GD ?_ | refine NW fun _ => ?_)
      refine WL.guardT rfl rfl rfl rfl (OP.lit0 (size := 1) rfl rfl rfl rfl rfl rfl fun b5 => ?_)
      repeat (first | refine GD ?_ | refine NW fun _ => ?_)
      refine WL.guardT rfl rfl rfl rfl (OP.append (ds := vols.map iV) rfl rfl rfl rfl rfl rfl rfl rfl rfl P1 (hE1 MM) (allOne_ints vols) (by omega) (by omega) rfl rfl (fun a6 cap6 => ?_))
      repeat (first | refine GD ?_ | refine NW fun _ => ?_)
      refine WL.guardT rfl rfl rfl rfl (OP.sliceLit (c := [iV x2]) rfl rfl rfl rfl rfl rfl rfl rfl (fun b7 => ?_))
      refine WL.guardT rfl rfl rfl rfl (OP.append (ds := [iV x2]) rfl rfl rfl rfl rfl rfl rfl rfl rfl P1 (Ent.own MM) rfl (by omega) (by omega) rfl rfl (fun a8 cap8 => ?_))
      refine WL.guardT rfl rfl rfl rfl (OP.callRT rfl rfl (mnewest_rt p S a8 (0 + n1 + 1) cap8 (vols ++ [x2]) (by simp [hn1]) (by omega)) (Ent.and (Ent.mem (A := mtab p S) MM (up_mtab _ _) fun _ a => a) (by rw [readI, List.map_append]; exact Ent.own MM)) rfl rfl ?_)
      rintro _ _ ⟨k2, hk2, rfl, rfl⟩
      have hle2 : ¬ best < k2 := by
        have := isNew_le hk2 hbest fun m h1 h2 => ⟨fun e => by rw [e] at hn1; simp at hn1; omega, lacks_nil (fun v h => List.mem_append_left _ h) (fun _ h => h) h2⟩
        omega
      repeat (first | refine GD ?_ | refine NW fun _ => ?_)
      refine WL.step rfl (OP.call (pre := [mtab p S]) rfl rfl (mput_ok p _ x2 x3) PS rfl rfl ?_)
      intro x M hM
      obtain ⟨E, rfl⟩ := hM.one
      repeat (first | refine GD ?_ | refine NW fun _ => ?_)
      refine WL.imp (Imp.dropE E [mtab p (stepS S x2 x3)] _) ?_
      dsimp only [List.cons_append, List.nil_append]
      refine WL.step rfl (OP.callRT rfl rfl (mnewest_rt p (stepS S x2 x3) a1 n1 c1 vols hn1 (by omega)) (Ent.and (Ent.mem (A := mtab p (stepS S x2 x3)) MM (up_mtab _ _) fun _ a => a) (hE1 MM)) rfl rfl ?_)
      rintro _ _ ⟨k3, hk3, rfl, rfl⟩
      have hle : best ≤ k3 := isNew_le hbest hk3 fun m h1 h2 => ⟨h1, lacks_nil (fun _ h => h) (fun v h => rowS_mono stepS_mono v m h) h2⟩
      repeat (first | refine GD ?_ | refine NW fun _ => ?_)
      exact ret1 rfl ⟨rfl, MM⟩
    · repeat (first | refine GD ?_ | refine NW fun _ => ?_)
      refine WL.step rfl (OP.call (pre := [mtab p S]) rfl rfl (mput_ok p _ x2 x3) PS rfl rfl ?_)
      intro x M hM
      obtain ⟨E, rfl⟩ := hM.one
      repeat (first | refine GD ?_ | refine NW fun _ => ?_)
      refine WL.imp (Imp.dropE E [mtab p (stepS S x2 x3)] _) ?_
      dsimp only [List.cons_append, List.nil_append]
      refine WL.step rfl (OP.callRT rfl rfl (mnewest_rt p (stepS S x2 x3) a1 n1 c1 vols hn1 (by omega)) (Ent.and (Ent.mem (A := mtab p (stepS S x2 x3)) MM (up_mtab _ _) fun _ a => a) (hE1 MM)) rfl rfl ?_)
      rintro _ _ ⟨k3, hk3, rfl, rfl⟩
      have hle : best ≤ k3 := isNew_le hbest hk3 fun m h1 h2 => ⟨h1, lacks_nil (fun _ h => h) (fun v h => rowS_mono stepS_mono v m h) h2⟩
      repeat (first | refine GD ?_ | refine NW fun _ => ?_)
      exact ret1 rfl ⟨rfl, MM⟩
end Go.Proofs.Ytacgheafbkfciaa
namespace Go.Proofs.Ytacgheafbkfciaa
open Go Go.GL Go.ChangeShapes Go.WideShapes Go.ChangeAt Go.RowKit
open Go.ChangeMaps (open_string shut_string)
set_option linter.unusedVariables false

theorem ownMarksNewest : ownKnob Try.prog.godebug = none := by kernel_rfl
theorem laidOutMarksNewest : laidOutB Try.prog = true := by kernel_rfl
set_option maxRecDepth 100000 in
theorem liftedMarksNewest (os : Os) (started : os.Started) (H : Type) (enc : TypeId × Value → H) :
    ReturnsInHanded {} Try.checked os 3 .any (Rows.marksNewestSpec.pre6 enc Try.prog Try.f3 Rows.marksNewestRow.domain false) (Rows.marksNewestSpec.post enc Try.prog Try.f3 false true false false) := by
  refine returnsInHanded_of_change (C := Try.checked) ownMarksNewest started (by kernel_rfl) Try.func3
    (ChangeSpec.witness6 (enc := enc) (C := Try.checked) false ⟨#[], #[.slice none 0 0, .slice none 0 0, .int .i64 0, .int .i64 0], []⟩ 8 (by kernel_rfl) (by kernel_rfl) (by kernel_rfl) (by kernel_rfl)) ?_
  intro W base args ds gs before hval0 hW hcnd _
  have hval : ∀ (j : Nat) t v, Try.f3.params[j]? = some t → args[j]? = some v → Value.okWide Try.prog W .any base t v := hval0
  have hW' := hW
  obtain ⟨p, q, hA0, hV, rfl, hfz, hnd⟩ := hW
  have hA : DataW.TrodAll enc Try.prog W 0 (fun _ => true) true Try.f3.params.toList args.toList ds p := hA0
  rw [Try.params3] at hA hval
  obtain ⟨v0, vs0, d0, ds0, p0, q0, hargs, rfl, rfl, h0, r0⟩ := trodAll_cons hA
  obtain ⟨v1, vs1, d1, ds1, p1, q1, rfl, rfl, rfl, h1, r1⟩ := trodAll_cons r0
  obtain ⟨v2, vs2, d2, ds2, p2, q2, rfl, rfl, rfl, h2, r2⟩ := trodAll_cons r1
  obtain ⟨v3, vs3, d3, ds3, p3, q3, rfl, rfl, rfl, h3, r3⟩ := trodAll_cons r2
  obtain ⟨rfl, rfl, rfl⟩ := trodAll_nil r3
  obtain rfl : args = #[v0, v1, v2, v3] := by cases args; simp_all
  obtain ⟨rfl, rfl⟩ := trodVars_none hV
  have k0 := h0
  obtain ⟨a0, len0, cap0, rw0, rfl, hr0, hc0, hm0, ho0, R0⟩ := open_row (n := 8) (l := [.int .i64, .int .i64, .int .i64]) Try.underlying22 (by kernel_rfl) (by kernel_rfl) (hval 0 22 v0 rfl rfl) h0
  obtain ⟨l0, hl0, hn0, w0⟩ := rows_enc (fun x hx => mop_of (ho0 x hx))
  rw [hl0] at R0
  rw [hr0] at hn0
  have k1 := h1
  obtain ⟨a1, len1, cap1, rw1, rfl, hr1, hc1, hm1, ho1, R1⟩ := open_row (n := 4) (l := [.int .i64]) Try.underlying23 (by kernel_rfl) (by kernel_rfl) (hval 1 23 v1 rfl rfl) h1
  obtain ⟨l1, hl1, hn1, w1⟩ := rows_ints ho1
  rw [hl1] at R1
  rw [hr1] at hn1
  have k2 := h2
  obtain ⟨a2, rfl, _, _, w2⟩ := open_int Try.underlying3 (hval 2 3 v2 rfl rfl) h2
  have k3 := h3
  obtain ⟨a3, rfl, _, _, w3⟩ := open_int Try.underlying3 (hval 3 3 v3 rfl rfl) h3
  clear hA0 hval0
  refine ((mnewestlaw_ro a0 a1 len0 cap0 len1 cap1 l0 l1 a2 a3 hn0.symm hn1.symm w0).calls W ⟨R0, R1⟩).mono fun e W' ⟨he, ext⟩ => ?_
  subst he
  exact ⟨_, rfl, _, _, _, [], _, [], hW', trodAll_mk1 (shut_bool Try.underlying4 _), (trodAll_cons_mk (GL.Ext.trod laidOutMarksNewest (by kernel_rfl) (of_decide_eq_true (by kernel_rfl)) k0 ext) (trodAll_cons_mk (GL.Ext.trod laidOutMarksNewest (by kernel_rfl) (of_decide_eq_true (by kernel_rfl)) k1 ext) (trodAll_cons_mk (GL.Ext.trod laidOutMarksNewest (by kernel_rfl) (of_decide_eq_true (by kernel_rfl)) k2 ext) (trodAll_cons_mk (GL.Ext.trod laidOutMarksNewest (by kernel_rfl) (of_decide_eq_true (by kernel_rfl)) k3 ext) trodAll_mk0)))), rfl, ext.keptBut _, fun h => by cases h⟩
theorem overMarksNewest : Rows.marksNewestRow.holds Try.pinned (OpenSpec.ofChange Rows.marksNewestSpec) :=
  OpenClaim.holds_of_wide 3 Try.f3 rfl rfl rfl rfl rfl rfl rfl ⟨rfl, rfl, rfl, rfl, rfl⟩ rfl rfl rfl rfl rfl (by kernel_rfl) Try.func3 (by kernel_rfl)
    (of_decide_eq_true (by kernel_rfl)) (by unfold Func.isWrapper; first | (rw [if_pos (by decide +kernel)]; kernel_rfl) | (rw [if_neg (by decide +kernel)]; exact ⟨rfl, rfl⟩))
    (fun os started H enc _ => liftedMarksNewest os started H enc)
theorem marksNewest_holds : Rows.MarksNewestSaid := overMarksNewest
end Go.Proofs.Ytacgheafbkfciaa
