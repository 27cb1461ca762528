/- Contracts of functions of the given program, and plain laws: parts of the proofs of laws. -/
import Derived.Test.YtacgheafbkfciaaZMk7
import Derived.Test.YtacgheafbkfciaaZMk12
/- Contracts of functions of the given program, and plain laws on what they compute: parts of the proofs of laws. -/

namespace Go.Proofs.Ytacgheafbkfciaa
open Go Go.GL

theorem isNew_le {S S' : Int → Int → Bool} {vols vols' : List Int} {k k' : Int} (hk : IsNew S vols k) (hk' : IsNew S' vols' k') (h : ∀ m, vols ≠ [] → lacksS S m vols = [] → vols' ≠ [] ∧ lacksS S' m vols' = []) : k ≤ k' := by
  obtain ⟨h1, h2, _⟩ := hk
  obtain ⟨h4, _, h6⟩ := hk'
  rcases h2 with h2 | ⟨h2, h3⟩
  · omega
  · by_cases hz : 0 < k
    · obtain ⟨g1, g2⟩ := h k h2 h3
      exact h6 k hz g1 g2
    · omega
theorem lacks_nil {S S' : Int → Int → Bool} {vols vols' : List Int} {m : Int} (h : ∀ v ∈ vols', v ∈ vols) (hs : ∀ v, rowS S v m = true → rowS S' v m = true) (hl : lacksS S m vols = []) : lacksS S' m vols' = [] := by
  unfold lacksS
  rw [List.filter_eq_nil_iff]
  intro v hv
  rw [hs v (lacks_head hl (h v hv))]
  decide
theorem sorted_few {S : Int → Int → Bool} {fl : List Int} (hF : Few S fl) {v : Int} {o : List Int} (ho : SortedOf (rowS S v) o) : o.length ≤ 100000 := by
  refine Nat.le_trans (length_le_of_mem (b := fl) (ho.1.imp fun h e => by omega) (fun k hk => ?_)) hF.len
  have := (ho.2 k).1 hk
  unfold rowS at this
  split at this
  · exact hF.mem v k this
  · cases this
theorem allOne_ints : ∀ (l : List Int), allOne (l.map iV) = true
  | [] => rfl
  | _ :: l => allOne_ints l
theorem stepS_mono {S : Int → Int → Bool} {v m : Int} (a b : Int) (h : S a b = true) : stepS S v m a b = true := by rw [stepS_eq, h]; rfl
set_option maxHeartbeats 16000000 in
set_option maxRecDepth 10000 in
theorem mnewestlaw_ro (a a1 : Option Addr) (n c n1 c1 : Nat) (l : List MOp) (vols : List Int) (x2 x3 : Int) (hn : n = l.length) (hn1 : n1 = vols.length) (hw : ∀ o ∈ l, (Lit.int .i64 o.2.2).wf = true) :
    RO G 3 [.slice a n c, .slice a1 n1 c1, .int .i64 x2, .int .i64 x3] (fun h => readS a n 3 (l.flatMap encM) h ∧ readI a1 n1 vols h) (.bool true) := by
  refine RO.enter Try.func3 rfl (by decide) rfl Try.ntmps3 rfl (fun A hu hA => ?_) (up_and (up_readS _ _ _ _) (up_readS _ _ _ _))
  have hE : ∀ {L}, A ∈ L → Ent L (readS a n 3 (l.flatMap encM)) := fun m => Ent.mem m hu fun k x => (hA k x).1
  have hE1 : ∀ {L}, A ∈ L → Ent L (readI a1 n1 vols) := fun m => Ent.mem m hu fun k x => (hA k x).2
  repeat (first | refine GD ?_ | refine NW fun _ => ?_)
  refine WL.step rfl (OP.callRO rfl rfl mawake_ro (fun _ _ => trivial) rfl rfl ?_)
  by_cases h200 : 200 < n
  · repeat (first | refine GD ?_ | refine NW fun _ => ?_)
    refine WL.step rfl (OP.callRO rfl rfl mawake_ro (fun _ _ => trivial) rfl rfl ?_)
    repeat (first | refine GD ?_ | refine NW fun _ => ?_)
    exact ret1 rfl ⟨rfl, MM⟩
  by_cases h20 : 20 < n1
  · repeat (first | refine GD ?_ | refine NW fun _ => ?_)
    refine WL.step rfl (OP.callRO rfl rfl mawake_ro (fun _ _ => trivial) rfl rfl ?_)
    repeat (first | refine GD ?_ | refine NW fun _ => ?_)
    exact ret1 rfl ⟨rfl, MM⟩
  repeat (first | refine GD ?_ | refine NW fun _ => ?_)
  rename_i p
  refine WC.imp (mtabNil p) ?_
  refine WC.loop (σ := Nat) (fun k => k ≤ n)
    (fun k => [(0, .val (.slice a n c)), (1, .val (.slice a1 n1 c1)), (2, .val (.int .i64 x2)), (3, .val (.int .i64 x3)), (9, .val (.pointer (some ⟨p, 0, none⟩))), (31, .val (.int .i64 n)), (32, .val (.int .i64 k))])
    (fun k => [mtab p (playS (l.take k)), A]) (fun k => n - k) 0 (Nat.zero_le _) ⟨rfl, rfl, rfl, rfl, rfl, rfl, rfl, trivial⟩ (Imp.refl _) ?_
  rintro k hk
  by_cases hlt : k < n
  · have hlk : k < l.length := by omega
    have hsn : playS (l.take (k + 1)) = stepS (playS (l.take k)) l[k].2.1 l[k].2.2 := by rw [← List.take_append_getElem hlk, playS_snoc]
    refine WC.fact (Ent.some (hE MM) (by omega)) ?_
    rintro ⟨b, off, rfl⟩
    have hel : ∀ {L} (i : Nat) (v : Value), Nat.blt i 3 = true → (encM l[k])[i]? = some v → A ∈ L → Ent L (cellAt b (off + k * 3 + i) v) := fun i v hi hv m => Ent.elF encM_len (hE m) hlk hi hv
    generalize l[k] = o at *
    obtain ⟨kd, v, m⟩ := o
    dsimp only at hsn
    repeat (first | refine GD ?_ | refine NW fun _ => ?_)
    refine RD 11 12 (_) ?_
    refine WP 0 ?_
    refine WP 1 ?_
    refine WP 2 ?_
    refine WP 3 ?_
    refine WP 4 ?_
    refine VL 5 (.int .i64 v) rfl rfl rfl rfl (.inl ⟨rfl, hel 1 _ rfl rfl MM⟩) ?_
    refine WP 6 ?_
    refine WP 7 ?_
    refine WP 8 ?_
    refine WP 9 ?_
    refine VL 10 (.int .i64 m) rfl rfl rfl rfl (.inl ⟨rfl, hel 2 _ rfl rfl MM⟩) ?_
    refine WH.only 11 rfl rfl (by kernel_rfl) rfl (OP.call (pre := [mtab p (playS (l.take k))]) rfl rfl (mput_ok p _ v m) PS rfl rfl (fun x M hM => ?_))
    obtain ⟨E, rfl⟩ := hM.one
    refine ⟨(fun h => nomatch h), ?_⟩
    refine DN ?_
    repeat (first | refine GD ?_ | refine NW fun _ => ?_)
    exact ⟨k + 1, by omega, by omega, ⟨rfl, rfl, rfl, rfl, rfl, rfl, rfl, trivial⟩, by rw [hsn]; exact Imp.dropE E [mtab p (stepS (playS (l.take k)) v m)] [A]⟩
  obtain rfl : k = l.length := by omega
  have hF := playFew hw (by omega)
  rw [List.take_length]
  generalize playS l = S at *
  repeat (first | refine GD ?_ | refine NW fun _ => ?_)
  refine WL.step rfl (OP.callRT rfl rfl (mnewest_rt p S a1 n1 c1 vols hn1 (by omega)) (Ent.and (Ent.mem (A := mtab p S) MM (up_mtab _ _) fun _ a => a) (hE1 MM)) rfl rfl ?_)
  rintro _ _ ⟨best, hbest, rfl, rfl⟩
  by_cases hb : 0 < best
  · have hz : lacksS S best vols = [] := by
      rcases hbest.2.1 with h | h
      · omega
      · exact h.2
    have hz2 : ((lacksS S best vols).length : Int) = 0 := by rw [hz]; rfl
    repeat (first | refine GD ?_ | refine NW fun _ => ?_)
    refine WL.guardT rfl rfl rfl rfl (OP.callRT rfl rfl (mlacks_rt p S best a1 n1 c1 vols hn1 (by omega)) (Ent.and (Ent.mem (A := mtab p S) MM (up_mtab _ _) fun _ a => a) (hE1 MM)) rfl rfl ?_)
    rintro _ _ ⟨aL, capL, rfl, rfl⟩
    repeat (first | refine GD ?_ | refine NW fun _ => ?_)
    refine WC.loop (σ := Nat) (fun i => i ≤ n1)
      (fun i => [(0, .val (.slice a n c)), (1, .val (.slice a1 n1 c1)), (2, .val (.int .i64 x2)), (3, .val (.int .i64 x3)), (9, .val (.pointer (some ⟨p, 0, none⟩))), (11, .val (.int .i64 best)), (62, .val (.int .i64 n1)), (63, .val (.int .i64 i))])
      (fun _ => [mtab p S, A]) (fun i => n1 - i) 0 (Nat.zero_le _) ⟨rfl, rfl, rfl, rfl, rfl, rfl, rfl, rfl, trivial⟩ II ?_
    rintro i hi
    by_cases hli : i < n1
    · have hlv : i < vols.length := by omega
      have hne : vols ≠ [] := fun e => by rw [e] at hlv; exact Nat.not_lt_zero _ hlv
      refine WC.fact (Ent.some (hE1 MM) (by omega)) ?_
      rintro ⟨b1, off1, rfl⟩
      have hel1 : ∀ {L}, A ∈ L → Ent L (cellAt b1 (off1 + i * 1) (iV vols[i])) := fun m => Ent.elem (hE1 m) rfl (int_get hlv)
      generalize vols[i] = v at *
      repeat (first | refine GD ?_ | refine NW fun _ => ?_)
      refine WL.step rfl (OP.load1 (v := .int .i64 v) rfl rfl rfl rfl (hel1 MM) rfl rfl ?_)
      refine WL.step rfl (OP.callRT rfl rfl (mof_rt p S v hF) (Ent.mem (A := mtab p S) MM (up_mtab _ _) fun _ a => a) rfl rfl ?_)
      rintro _ _ ⟨aO, capO, o, ho, rfl, rfl⟩
      have holen : o.length ≤ 100000 := sorted_few hF ho
      repeat (first | refine GD ?_ | refine NW fun _ => ?_)
      refine WC.loop (σ := Nat) (fun j => j ≤ o.length)
        (fun j => [(0, .val (.slice a n c)), (1, .val (.slice (some ⟨b1, off1, none⟩) n1 c1)), (2, .val (.int .i64 x2)), (3, .val (.int .i64 x3)), (9, .val (.pointer (some ⟨p, 0, none⟩))), (11, .val (.int .i64 best)), (62, .val (.int .i64 n1)), (63, .val (.int .i64 i)), (12, .val (.int .i64 i)), (13, .val (.slice aO o.length capO)), (73, .val (.int .i64 o.length)), (74, .val (.int .i64 j))])
        (fun _ => [ownS aO o.length capO 3 1 (o.map iV), mtab p S, A]) (fun j => o.length - j) 0 (Nat.zero_le _) ⟨rfl, rfl, rfl, rfl, rfl, rfl, rfl, rfl, rfl, rfl, rfl, rfl, trivial⟩ II ?_
      rintro j hj
      by_cases hlj : j < o.length
      · refine WC.fact (Ent.some (Ent.own (T := 3) (cap := capO) (cs := o.map iV) MM) (by omega)) ?_
        rintro ⟨bO, offO, rfl⟩
        have helO : ∀ {L}, ownS (some ⟨bO, offO, none⟩) o.length capO 3 1 (o.map iV) ∈ L → Ent L (cellAt bO (offO + j * 1) (iV o[j])) := fun m => Ent.elem (Ent.own m) rfl (int_get hlj)
        generalize o[j] = x at *
        repeat (first | refine GD ?_ | refine NW fun _ => ?_)
        refine WL.step rfl (OP.load1 (v := .int .i64 x) rfl rfl rfl rfl (helO MM) rfl rfl ?_)
        by_cases hxb : best < x
        rotate_left
        · repeat (first | refine GD ?_ | refine NW fun _ => ?_)
          exact ⟨j + 1, by omega, by omega, ⟨rfl, rfl, rfl, rfl, rfl, rfl, rfl, rfl, rfl, rfl, rfl, rfl, trivial⟩, II⟩
        have hlne : lacksS S x vols ≠ [] := fun h => by
          have := hbest.2.2 x (by have := hbest.1; omega) hne h
          omega
        have hll : ¬ ((lacksS S x vols).length : Int) = 0 := fun h => hlne (List.eq_nil_of_length_eq_zero (by omega))
        repeat (first | refine GD ?_ | refine NW fun _ => ?_)
        refine WL.guardT rfl rfl rfl rfl (OP.load1 (v := .int .i64 x) rfl rfl rfl rfl (helO MM) rfl rfl ?_)
        repeat (first | refine GD ?_ | refine NW fun _ => ?_)
        refine WL.guardT rfl rfl rfl rfl (OP.callRT rfl rfl (mlacks_rt p S x _ n1 c1 vols hn1 (by omega)) (Ent.and (Ent.mem (A := mtab p S) MM (up_mtab _ _) fun _ a => a) (hE1 MM)) rfl rfl ?_)
        rintro _ _ ⟨aL, capL, rfl, rfl⟩
        repeat (first | refine GD ?_ | refine NW fun _ => ?_)
        exact ⟨j + 1, by omega, by omega, ⟨rfl, rfl, rfl, rfl, rfl, rfl, rfl, rfl, rfl, rfl, rfl, rfl, trivial⟩, II⟩
      · repeat (first | refine GD ?_ | refine NW fun _ => ?_)
        exact ⟨i + 1, by omega, by omega, ⟨rfl, rfl, rfl, rfl, rfl, rfl, rfl, rfl, trivial⟩, II⟩
    by_cases h0 : 0 < n1
    · repeat (first | refine GD ?_ | refine NW fun _ => ?_)
      refine WL.guardT rfl rfl rfl rfl (OP.lit0 (size := 1) rfl rfl rfl rfl rfl rfl fun b5 => ?_)
      repeat (first | refine GD ?_ | refine NW fun _ => ?_)
      refine WL.guardT rfl rfl rfl rfl (OP.append (ds := vols.map iV) rfl rfl rfl rfl rfl rfl rfl rfl rfl P1 (hE1 MM) (allOne_ints vols) (by omega) (by omega) rfl rfl (fun a6 cap6 => ?_))
      repeat (first | refine GD ?_ | refine NW fun _ => ?_)
      refine WL.guardT rfl rfl rfl rfl (OP.sliceLit (c := [iV x2]) rfl rfl rfl rfl rfl rfl rfl rfl (fun b7 => ?_))
      refine WL.guardT rfl rfl rfl rfl (OP.append (ds := [iV x2]) rfl rfl rfl rfl rfl rfl rfl rfl rfl P1 (Ent.own MM) rfl (by omega) (by omega) rfl rfl (fun a8 cap8 => ?_))
      refine WL.guardT rfl rfl rfl rfl (OP.callRT rfl rfl (mnewest_rt p S a8 (0 + n1 + 1) cap8 (vols ++ [x2]) (by simp [hn1]) (by omega)) (Ent.and (Ent.mem (A := mtab p S) MM (up_mtab _ _) fun _ a => a) (by rw [readI, List.map_append]; exact Ent.own MM)) rfl rfl ?_)
      rintro _ _ ⟨k2, hk2, rfl, rfl⟩
      have hle2 : ¬ best < k2 := by
        have := isNew_le hk2 hbest fun m h1 h2 => ⟨fun e => by rw [e] at hn1; simp at hn1; omega, lacks_nil (fun v h => List.mem_append_left _ h) (fun _ h => h) h2⟩
        omega
      repeat (first | refine GD ?_ | refine NW fun _ => ?_)
      refine WL.step rfl (OP.call (pre := [mtab p S]) rfl rfl (mput_ok p _ x2 x3) PS rfl rfl ?_)
      intro x M hM
      obtain ⟨E, rfl⟩ := hM.one
      repeat (first | refine GD ?_ | refine NW fun _ => ?_)
      refine WL.imp (Imp.dropE E [mtab p (stepS S x2 x3)] _) ?_
      dsimp only [List.cons_append, List.nil_append]
      refine WL.step rfl (OP.callRT rfl rfl (mnewest_rt p (stepS S x2 x3) a1 n1 c1 vols hn1 (by omega)) (Ent.and (Ent.mem (A := mtab p (stepS S x2 x3)) MM (up_mtab _ _) fun _ a => a) (hE1 MM)) rfl rfl ?_)
      rintro _ _ ⟨k3, hk3, rfl, rfl⟩
      have hle : best ≤ k3 := isNew_le hbest hk3 fun m h1 h2 => ⟨h1, lacks_nil (fun _ h => h) (fun v h => rowS_mono stepS_mono v m h) h2⟩
      repeat (first | refine GD ?_ | refine NW fun _ => ?_)
      exact ret1 rfl ⟨rfl, MM⟩
    · repeat (first | refine GD ?_ | refine NW fun _ => ?_)
      refine WL.step rfl (OP.call (pre := [mtab p S]) rfl rfl (mput_ok p _ x2 x3) PS rfl rfl ?_)
      intro x M hM
      obtain ⟨E, rfl⟩ := hM.one
      repeat (first | refine GD ?_ | refine NW fun _ => ?_)
      refine WL.imp (Imp.dropE E [mtab p (stepS S x2 x3)] _) ?_
      dsimp only [List.cons_append, List.nil_append]
      refine WL.step rfl (OP.callRT rfl rfl (mnewest_rt p (stepS S x2 x3) a1 n1 c1 vols hn1 (by omega)) (Ent.and (Ent.mem (A := mtab p (stepS S x2 x3)) MM (up_mtab _ _) fun _ a => a) (hE1 MM)) rfl rfl ?_)
      rintro _ _ ⟨k3, hk3, rfl, rfl⟩
      have hle : best ≤ k3 := isNew_le hbest hk3 fun m h1 h2 => ⟨h1, lacks_nil (fun _ h => h) (fun v h => rowS_mono stepS_mono v m h) h2⟩
      repeat (first | refine GD ?_ | refine NW fun _ => ?_)
      exact ret1 rfl ⟨rfl, MM⟩
  · repeat (first | refine GD ?_ | refine NW fun _ => ?_)
    refine WC.loop (σ := Nat) (fun i => i ≤ n1)
      (fun i => [(0, .val (.slice a n c)), (1, .val (.slice a1 n1 c1)), (2, .val (.int .i64 x2)), (3, .val (.int .i64 x3)), (9, .val (.pointer (some ⟨p, 0, none⟩))), (11, .val (.int .i64 best)), (62, .val (.int .i64 n1)), (63, .val (.int .i64 i))])
      (fun _ => [mtab p S, A]) (fun i => n1 - i) 0 (Nat.zero_le _) ⟨rfl, rfl, rfl, rfl, rfl, rfl, rfl, rfl, trivial⟩ II ?_
    rintro i hi
    by_cases hli : i < n1
    · have hlv : i < vols.length := by omega
      have hne : vols ≠ [] := fun e => by rw [e] at hlv; exact Nat.not_lt_zero _ hlv
      refine WC.fact (Ent.some (hE1 MM) (by omega)) ?_
      rintro ⟨b1, off1, rfl⟩
      have hel1 : ∀ {L}, A ∈ L → Ent L (cellAt b1 (off1 + i * 1) (iV vols[i])) := fun m => Ent.elem (hE1 m) rfl (int_get hlv)
      generalize vols[i] = v at *
      repeat (first | refine GD ?_ | refine NW fun _ => ?_)
      refine WL.step rfl (OP.load1 (v := .int .i64 v) rfl rfl rfl rfl (hel1 MM) rfl rfl ?_)
      refine WL.step rfl (OP.callRT rfl rfl (mof_rt p S v hF) (Ent.mem (A := mtab p S) MM (up_mtab _ _) fun _ a => a) rfl rfl ?_)
      rintro _ _ ⟨aO, capO, o, ho, rfl, rfl⟩
      have holen : o.length ≤ 100000 := sorted_few hF ho
      repeat (first | refine GD ?_ | refine NW fun _ => ?_)
      refine WC.loop (σ := Nat) (fun j => j ≤ o.length)
        (fun j => [(0, .val (.slice a n c)), (1, .val (.slice (some ⟨b1, off1, none⟩) n1 c1)), (2, .val (.int .i64 x2)), (3, .val (.int .i64 x3)), (9, .val (.pointer (some ⟨p, 0, none⟩))), (11, .val (.int .i64 best)), (62, .val (.int .i64 n1)), (63, .val (.int .i64 i)), (12, .val (.int .i64 i)), (13, .val (.slice aO o.length capO)), (73, .val (.int .i64 o.length)), (74, .val (.int .i64 j))])
        (fun _ => [ownS aO o.length capO 3 1 (o.map iV), mtab p S, A]) (fun j => o.length - j) 0 (Nat.zero_le _) ⟨rfl, rfl, rfl, rfl, rfl, rfl, rfl, rfl, rfl, rfl, rfl, rfl, trivial⟩ II ?_
      rintro j hj
      by_cases hlj : j < o.length
      · refine WC.fact (Ent.some (Ent.own (T := 3) (cap := capO) (cs := o.map iV) MM) (by omega)) ?_
        rintro ⟨bO, offO, rfl⟩
        have helO : ∀ {L}, ownS (some ⟨bO, offO, none⟩) o.length capO 3 1 (o.map iV) ∈ L → Ent L (cellAt bO (offO + j * 1) (iV o[j])) := fun m => Ent.elem (Ent.own m) rfl (int_get hlj)
        generalize o[j] = x at *
        repeat (first | refine GD ?_ | refine NW fun _ => ?_)
        refine WL.step rfl (OP.load1 (v := .int .i64 x) rfl rfl rfl rfl (helO MM) rfl rfl ?_)
        by_cases hxb : best < x
        rotate_left
        · repeat (first | refine GD ?_ | refine NW fun _ => ?_)
          exact ⟨j + 1, by omega, by omega, ⟨rfl, rfl, rfl, rfl, rfl, rfl, rfl, rfl, rfl, rfl, rfl, rfl, trivial⟩, II⟩
        have hlne : lacksS S x vols ≠ [] := fun h => by
          have := hbest.2.2 x (by have := hbest.1; omega) hne h
          omega
        have hll : ¬ ((lacksS S x vols).length : Int) = 0 := fun h => hlne (List.eq_nil_of_length_eq_zero (by omega))
        repeat (first | refine GD ?_ | refine NW fun _ => ?_)
        refine WL.guardT rfl rfl rfl rfl (OP.load1 (v := .int .i64 x) rfl rfl rfl rfl (helO MM) rfl rfl ?_)
        repeat (first | refine GD ?_ | refine NW fun _ => ?_)
        refine WL.guardT rfl rfl rfl rfl (OP.callRT rfl rfl (mlacks_rt p S x _ n1 c1 vols hn1 (by omega)) (Ent.and (Ent.mem (A := mtab p S) MM (up_mtab _ _) fun _ a => a) (hE1 MM)) rfl rfl ?_)
        rintro _ _ ⟨aL, capL, rfl, rfl⟩
        repeat (first | refine GD ?_ | refine NW fun _ => ?_)
        exact ⟨j + 1, by omega, by omega, ⟨rfl, rfl, rfl, rfl, rfl, rfl, rfl, rfl, rfl, rfl, rfl, rfl, trivial⟩, II⟩
      · repeat (first | refine GD ?_ | refine NW fun _ => ?_)
        exact ⟨i + 1, by omega, by omega, ⟨rfl, rfl, rfl, rfl, rfl, rfl, rfl, rfl, trivial⟩, II⟩
    by_cases h0 : 0 < n1
    · repeat (first | refine GD ?_ | refine NW fun _ => ?_)
      refine WL.guardT rfl rfl rfl rfl (OP.lit0 (size := 1) rfl rfl rfl rfl rfl rfl fun b5 => ?_)
      repeat (first | refine GD ?_ | refine NW fun _ => ?_)
      refine WL.guardT rfl rfl rfl rfl (OP.append (ds := vols.map iV) rfl rfl rfl rfl rfl rfl rfl rfl rfl P1 (hE1 MM) (allOne_ints vols) (by omega) (by omega) rfl rfl (fun a6 cap6 => ?_))
      repeat (first | refine GD ?_ | refine NW fun _ => ?_)
      refine WL.guardT rfl rfl rfl rfl (OP.sliceLit (c := [iV x2]) rfl rfl rfl rfl rfl rfl rfl rfl (fun b7 => ?_))
      refine WL.guardT rfl rfl rfl rfl (OP.append (ds := [iV x2]) rfl rfl rfl rfl rfl rfl rfl rfl rfl P1 (Ent.own MM) rfl (by omega) (by omega) rfl rfl (fun a8 cap8 => ?_))
      refine WL.guardT rfl rfl rfl rfl (OP.callRT rfl rfl (mnewest_rt p S a8 (0 + n1 + 1) cap8 (vols ++ [x2]) (by simp [hn1]) (by omega)) (Ent.and (Ent.mem (A := mtab p S) MM (up_mtab _ _) fun _ a => a) (by rw [readI, List.map_append]; exact Ent.own MM)) rfl rfl ?_)
      rintro _ _ ⟨k2, hk2, rfl, rfl⟩
      have hle2 : ¬ best < k2 := by
        have := isNew_le hk2 hbest fun m h1 h2 => ⟨fun e => by rw [e] at hn1; simp at hn1; omega, lacks_nil (fun v h => List.mem_append_left _ h) (fun _ h => h) h2⟩
        omega
      repeat (first | refine GD ?_ | refine NW fun _ => ?_)
      refine WL.step rfl (OP.call (pre := [mtab p S]) rfl rfl (mput_ok p _ x2 x3) PS rfl rfl ?_)
      intro x M hM
      obtain ⟨E, rfl⟩ := hM.one
      repeat (first | refine GD ?_ | refine NW fun _ => ?_)
      refine WL.imp (Imp.dropE E [mtab p (stepS S x2 x3)] _) ?_
      dsimp only [List.cons_append, List.nil_append]
      refine WL.step rfl (OP.callRT rfl rfl (mnewest_rt p (stepS S x2 x3) a1 n1 c1 vols hn1 (by omega)) (Ent.and (Ent.mem (A := mtab p (stepS S x2 x3)) MM (up_mtab _ _) fun _ a => a) (hE1 MM)) rfl rfl ?_)
      rintro _ _ ⟨k3, hk3, rfl, rfl⟩
      have hle : best ≤ k3 := isNew_le hbest hk3 fun m h1 h2 => ⟨h1, lacks_nil (fun _ h => h) (fun v h => rowS_mono stepS_mono v m h) h2⟩
      repeat (first | refine GD ?_ | refine NW fun _ => ?_)
      exact ret1 rfl ⟨rfl, MM⟩
    · repeat (first | refine GD ?_ | refine NW fun _ => ?_)
      refine WL.step rfl (OP.call (pre := [mtab p S]) rfl rfl (mput_ok p _ x2 x3) PS rfl rfl ?_)
      intro x M hM
      obtain ⟨E, rfl⟩ := hM.one
      repeat (first | refine GD ?_ | refine NW fun _ => ?_)
      refine WL.imp (Imp.dropE E [mtab p (stepS S x2 x3)] _) ?_
      dsimp only [List.cons_append, List.nil_append]
      refine WL.step rfl (OP.callRT rfl rfl (mnewest_rt p (stepS S x2 x3) a1 n1 c1 vols hn1 (by omega)) (Ent.and (Ent.mem (A := mtab p (stepS S x2 x3)) MM (up_mtab _ _) fun _ a => a) (hE1 MM)) rfl rfl ?_)
      rintro _ _ ⟨k3, hk3, rfl, rfl⟩
      have hle : best ≤ k3 := isNew_le hbest hk3 fun m h1 h2 => ⟨h1, lacks_nil (fun _ h => h) (fun v h => rowS_mono stepS_mono v m h) h2⟩
      repeat (first | refine GD ?_ | refine NW fun _ => ?_)
      exact ret1 rfl ⟨rfl, MM⟩
end Go.Proofs.Ytacgheafbkfciaa
/- Contracts of functions of the given program, and plain laws on what they compute: parts of the proofs of laws. -/

namespace Go.Proofs.Ytacgheafbkfciaa
open Go Go.GL

theorem playS_eq (l : List MOp) (a b : Int) : playS l a b = true ↔ ∃ o ∈ l, a = o.2.1 ∧ b = o.2.2 ∧ 0 ≤ o.2.1 ∧ o.2.1 < 4 ∧ 1 ≤ o.2.2 := by
  have go : ∀ (r : List MOp) (S : Int → Int → Bool), r.foldl (fun S o => stepS S o.2.1 o.2.2) S a b = true ↔ S a b = true ∨ ∃ o ∈ r, a = o.2.1 ∧ b = o.2.2 ∧ 0 ≤ o.2.1 ∧ o.2.1 < 4 ∧ 1 ≤ o.2.2 := by
    intro r
    induction r with
    | nil => intro S; simp
    | cons o r ih =>
      intro S
      rw [List.foldl_cons, ih, stepS_eq, Bool.or_eq_true, decide_eq_true_eq]
      simp only [List.mem_cons, exists_eq_or_imp]
      exact or_assoc
  rw [show playS l = l.foldl (fun S o => stepS S o.2.1 o.2.2) noS from rfl, go]
  simp [noS]
theorem stepS_twice (S : Int → Int → Bool) (v m : Int) : stepS (stepS S v m) v m = stepS S v m := by
  funext a b
  rw [stepS_eq, stepS_eq]
  cases S a b <;> simp
/-- the ops in another order -/
def seqO (l : List MOp) (r k : Nat) : List MOp := (List.range k).map (fun i => l.getD ((l.length - 1 - i + r) % l.length) (0, 0, 0))
theorem seqO_succ (l : List MOp) (r k : Nat) : seqO l r (k + 1) = seqO l r k ++ [l.getD ((l.length - 1 - k + r) % l.length) (0, 0, 0)] := by
  unfold seqO
  rw [List.range_succ, List.map_append]; rfl
theorem seqO_mem (l : List MOp) (r : Nat) (hr : r < l.length) (o : MOp) : o ∈ seqO l r l.length ↔ o ∈ l := by
  unfold seqO
  rw [List.mem_map]
  constructor
  · rintro ⟨i, _, rfl⟩
    have hlt : (l.length - 1 - i + r) % l.length < l.length := Nat.mod_lt _ (by omega)
    rw [List.getD_eq_getElem?_getD, List.getElem?_eq_getElem hlt]
    exact List.getElem_mem hlt
  · intro ho
    obtain ⟨j, hj, rfl⟩ := List.getElem_of_mem ho
    by_cases hrj : r ≤ j
    · refine ⟨l.length - 1 + r - j, List.mem_range.2 (by omega), ?_⟩
      rw [show l.length - 1 - (l.length - 1 + r - j) + r = j by omega, Nat.mod_eq_of_lt hj, List.getD_eq_getElem?_getD, List.getElem?_eq_getElem hj]; rfl
    · refine ⟨r - j - 1, List.mem_range.2 (by omega), ?_⟩
      rw [show l.length - 1 - (r - j - 1) + r = l.length + j by omega, Nat.add_mod_left, Nat.mod_eq_of_lt hj, List.getD_eq_getElem?_getD, List.getElem?_eq_getElem hj]; rfl
theorem seqO_play (l : List MOp) (r : Nat) (hr : r < l.length) : playS (seqO l r l.length) = playS l := by
  funext a b
  rw [Bool.eq_iff_iff, playS_eq, playS_eq]
  constructor
  · rintro ⟨o, h1, h2⟩; exact ⟨o, (seqO_mem l r hr o).1 h1, h2⟩
  · rintro ⟨o, h1, h2⟩; exact ⟨o, (seqO_mem l r hr o).2 h1, h2⟩
theorem sorted_uniq : ∀ {a b : List Int}, a.Pairwise (· < ·) → b.Pairwise (· < ·) → (∀ x, x ∈ a ↔ x ∈ b) → a = b
  | [], b, _, _, h => by
    cases b with
    | nil => rfl
    | cons y b => exact absurd ((h y).2 List.mem_cons_self) (by simp)
  | x :: a, b, ha, hb, h => by
    cases b with
    | nil => exact absurd ((h x).1 List.mem_cons_self) (by simp)
    | cons y b =>
      have ha1 : ∀ {z}, z ∈ a → x < z := fun h => List.rel_of_pairwise_cons ha h
      have hb1 : ∀ {z}, z ∈ b → y < z := fun h => List.rel_of_pairwise_cons hb h
      have hxy : x = y := by
        rcases List.mem_cons.1 ((h x).1 List.mem_cons_self) with e | e
        · exact e
        · rcases List.mem_cons.1 ((h y).2 List.mem_cons_self) with e' | e'
          · exact e'.symm
          · have h1 := hb1 e
            have h2 := ha1 e'
            omega
      subst hxy
      rw [sorted_uniq (List.Pairwise.of_cons ha) (List.Pairwise.of_cons hb) fun z => ⟨fun hz => ?_, fun hz => ?_⟩]
      · rcases List.mem_cons.1 ((h z).1 (List.mem_cons_of_mem _ hz)) with e | e
        · have := ha1 hz; omega
        · exact e
      · rcases List.mem_cons.1 ((h z).2 (List.mem_cons_of_mem _ hz)) with e | e
        · have := hb1 hz; omega
        · exact e
theorem SortedOf.uniq {f g : Int → Bool} {a b : List Int} (ha : SortedOf f a) (hb : SortedOf g b) (h : ∀ k, f k = g k) : a = b := sorted_uniq ha.1 hb.1 fun x => by rw [ha.2, hb.2, h]
set_option maxHeartbeats 16000000 in
set_option maxRecDepth 10000 in
theorem morderlaw_ro (a a1 : Option Addr) (n c n1 c1 : Nat) (l : List MOp) (vols : List Int) (x2 : Int) (hx : 0 ≤ x2 ∧ x2 ≤ 18446744073709551615) (hn : n = l.length) (hn1 : n1 = vols.length) (hw : ∀ o ∈ l, (Lit.int .i64 o.2.2).wf = true) :
    RO G 4 [.slice a n c, .slice a1 n1 c1, .int .u64 x2] (fun h => readS a n 3 (l.flatMap encM) h ∧ readI a1 n1 vols h) (.bool true) := by
  refine RO.enter Try.func4 rfl (by decide) rfl Try.ntmps4 rfl (fun A hu hA => ?_) (up_and (up_readS _ _ _ _) (up_readS _ _ _ _))
  have hE : ∀ {L}, A ∈ L → Ent L (readS a n 3 (l.flatMap encM)) := fun m => Ent.mem m hu fun k x => (hA k x).1
  have hE1 : ∀ {L}, A ∈ L → Ent L (readI a1 n1 vols) := fun m => Ent.mem m hu fun k x => (hA k x).2
  repeat (first | refine GD ?_ | refine NW fun _ => ?_)
  refine WL.step rfl (OP.callRO rfl rfl mawake_ro (fun _ _ => trivial) rfl rfl ?_)
  by_cases h200 : 200 < n
  · repeat (first | refine GD ?_ | refine NW fun _ => ?_)
    refine WL.step rfl (OP.callRO rfl rfl mawake_ro (fun _ _ => trivial) rfl rfl ?_)
    repeat (first | refine GD ?_ | refine NW fun _ => ?_)
    exact ret1 rfl ⟨rfl, MM⟩
  by_cases h20 : 20 < n1
  · repeat (first | refine GD ?_ | refine NW fun _ => ?_)
    refine WL.step rfl (OP.callRO rfl rfl mawake_ro (fun _ _ => trivial) rfl rfl ?_)
    repeat (first | refine GD ?_ | refine NW fun _ => ?_)
    exact ret1 rfl ⟨rfl, MM⟩
  by_cases h0 : n = 0
  · subst h0
    repeat (first | refine GD ?_ | refine NW fun _ => ?_)
    refine WL.step rfl (OP.callRO rfl rfl mawake_ro (fun _ _ => trivial) rfl rfl ?_)
    repeat (first | refine GD ?_ | refine NW fun _ => ?_)
    exact ret1 rfl ⟨rfl, MM⟩
  have hn0 : (0 : Int) < n := by omega
  obtain ⟨r, hr⟩ : ∃ r : Nat, (r : Int) = x2 % n := ⟨(x2 % n).toNat, Int.toNat_of_nonneg (Int.emod_nonneg _ (by omega))⟩
  have hrn : r < n := by have := Int.emod_lt_of_pos x2 hn0; omega
  repeat (first | refine GD ?_ | refine NW fun _ => ?_)
  rename_i p q
  rw [← hr]
  refine WC.imp (Imp.trans (mtabNil q) (Imp.cons (mtabNil p))) ?_
  refine WC.loop (σ := Nat) (fun k => k ≤ n)
    (fun k => [(0, .val (.slice a n c)), (1, .val (.slice a1 n1 c1)), (7, .val (.pointer (some ⟨p, 0, none⟩))), (8, .val (.pointer (some ⟨q, 0, none⟩))), (9, .val (.int .i64 r)), (44, .val (.int .i64 n)), (45, .val (.int .i64 k))])
    (fun k => [mtab q (playS (seqO l r k)), mtab p (playS (l.take k)), A]) (fun k => n - k) 0 (Nat.zero_le _) ⟨rfl, rfl, rfl, rfl, rfl, rfl, rfl, trivial⟩ (Imp.refl _) ?_
  rintro k hk
  by_cases hlt : k < n
  · have hlk : k < l.length := by omega
    have hsn : playS (l.take (k + 1)) = stepS (playS (l.take k)) l[k].2.1 l[k].2.2 := by rw [← List.take_append_getElem hlk, playS_snoc]
    obtain ⟨j, hj⟩ : ∃ j, j = (l.length - 1 - k + r) % l.length := ⟨_, rfl⟩
    have hjl : j < l.length := by rw [hj]; exact Nat.mod_lt _ (by omega)
    have hji : (((n : Int) - 1 - (k : Int) + (r : Int)) % (n : Int)) = (j : Int) := by
      rw [hj, hn, show ((l.length : Int) - 1 - (k : Int) + (r : Int)) = ((l.length - 1 - k + r : Nat) : Int) by omega, ← Int.natCast_emod]
    have hsq : playS (seqO l r (k + 1)) = stepS (playS (seqO l r k)) l[j].2.1 l[j].2.2 := by
      rw [seqO_succ, playS_snoc, ← hj, List.getD_eq_getElem?_getD, List.getElem?_eq_getElem hjl]; rfl
    refine WC.fact (Ent.some (hE MM) (by omega)) ?_
    rintro ⟨b, off, rfl⟩
    have hel : ∀ {L} (i : Nat) (v : Value), Nat.blt i 3 = true → (encM l[k])[i]? = some v → A ∈ L → Ent L (cellAt b (off + k * 3 + i) v) := fun i v hi hv m => Ent.elF encM_len (hE m) hlk hi hv
    have helj : ∀ {L}, A ∈ L → Ent L (cellsAt b (off + j * 3) (encM l[j])) := fun m => Ent.elA encM_len (hE m) hjl
    generalize l[k] = o at *
    generalize l[j] = o2 at *
    obtain ⟨kd, v, m⟩ := o
    obtain ⟨kd2, v2, m2⟩ := o2
    dsimp only at hsn hsq
    repeat (first | refine GD ?_ | refine NW fun _ => ?_)
    refine RD 11 12 (_) ?_
    refine WP 0 ?_
    refine WP 1 ?_
    refine WP 2 ?_
    refine WP 3 ?_
    refine WP 4 ?_
    refine VL 5 (.int .i64 v) rfl rfl rfl rfl (.inl ⟨rfl, hel 1 _ rfl rfl MM⟩) ?_
    refine WP 6 ?_
    refine WP 7 ?_
    refine WP 8 ?_
    refine WP 9 ?_
    refine VL 10 (.int .i64 m) rfl rfl rfl rfl (.inl ⟨rfl, hel 2 _ rfl rfl MM⟩) ?_
    refine WH.only 11 rfl rfl (by kernel_rfl) rfl (OP.call (pre := [mtab p (playS (l.take k))]) rfl rfl (mput_ok p _ v m) PS rfl rfl (fun x M hM => ?_))
    obtain ⟨E, rfl⟩ := hM.one
    refine ⟨(fun h => nomatch h), ?_⟩
    refine DN ?_
    refine WC.imp (Imp.dropE E [mtab p (stepS (playS (l.take k)) v m)] _) ?_
    dsimp only [List.cons_append, List.nil_append]
    rw [← hsn]
    repeat (first | refine GD ?_ | refine NW fun _ => ?_)
    rw [hji]
    repeat (first | refine GD ?_ | refine NW fun _ => ?_)
    refine WL.step rfl (OP.loadA (l := encM (kd2, v2, m2)) rfl rfl rfl rfl (helj MM) rfl rfl rfl ?_)
    repeat (first | refine GD ?_ | refine NW fun _ => ?_)
    refine WL.step rfl (OP.call (pre := [mtab q (playS (seqO l r k))]) rfl rfl (mput_ok q _ v2 m2) PS rfl rfl ?_)
    intro x2 M2 hM2
    obtain ⟨E2, rfl⟩ := hM2.one
    refine WL.imp (Imp.dropE E2 [mtab q (stepS (playS (seqO l r k)) v2 m2)] _) ?_
    dsimp only [List.cons_append, List.nil_append]
    repeat (first | refine GD ?_ | refine NW fun _ => ?_)
    refine WL.step rfl (OP.call (pre := [mtab q (stepS (playS (seqO l r k)) v2 m2)]) rfl rfl (mput_ok q _ v2 m2) PS rfl rfl ?_)
    intro x3 M3 hM3
    obtain ⟨E3, rfl⟩ := hM3.one
    rw [stepS_twice, ← hsq]
    repeat (first | refine GD ?_ | refine NW fun _ => ?_)
    exact ⟨k + 1, by omega, by omega, ⟨rfl, rfl, rfl, rfl, rfl, rfl, rfl, trivial⟩, Imp.trans (Imp.dropE E3 [mtab q (playS (seqO l r (k + 1)))] _) II⟩
  obtain rfl : k = l.length := by omega
  have hF := playFew hw (by omega)
  rw [List.take_length, seqO_play l r (by omega)]
  generalize playS l = S at *
  repeat (first | refine GD ?_ | refine NW fun _ => ?_)
  refine WC.imp (Imp.nilS 3 1) ?_
  refine WC.loop (σ := Nat × Option Addr × Nat) (fun s => s.1 ≤ n1)
    (fun s => [(1, .val (.slice a1 n1 c1)), (7, .val (.pointer (some ⟨p, 0, none⟩))), (8, .val (.pointer (some ⟨q, 0, none⟩))), (12, .val (.slice s.2.1 s.1 s.2.2)), (87, .val (.int .i64 n1)), (88, .val (.int .i64 s.1))])
    (fun s => [ownS s.2.1 s.1 s.2.2 3 1 ((vols.reverse.take s.1).map iV), mtab q S, mtab p S, A]) (fun s => n1 - s.1) (0, none, 0) (Nat.zero_le _) ⟨rfl, rfl, rfl, rfl, rfl, rfl, trivial⟩ II ?_
  rintro ⟨i, a12, cap12⟩ hi
  dsimp only at hi ⊢
  by_cases hli : i < n1
  · have hlv : i < vols.reverse.length := by rw [List.length_reverse]; omega
    have hlv2 : n1 - 1 - i < vols.length := by omega
    have hge : vols.reverse[i] = vols[n1 - 1 - i] := by rw [List.getElem_reverse]; congr 1; omega
    have hsn : vols.reverse.take (i + 1) = vols.reverse.take i ++ [vols[n1 - 1 - i]] := by rw [← List.take_append_getElem hlv, hge]
    have hlen : (vols.reverse.take i).length = i := by rw [List.length_take]; omega
    refine WC.fact (Ent.some (hE1 MM) (by omega)) ?_
    rintro ⟨b1, off1, rfl⟩
    have hel1 : ∀ {L}, A ∈ L → Ent L (cellAt b1 (off1 + (n1 - 1 - i) * 1) (iV vols[n1 - 1 - i])) := fun m => Ent.elem (hE1 m) rfl (int_get hlv2)
    have hix : (n1 : Int) - 1 - (i : Int) = ((n1 - 1 - i : Nat) : Int) := by omega
    generalize vols[n1 - 1 - i] = v at *
    generalize n1 - 1 - i = u at *
    repeat (first | refine GD ?_ | refine NW fun _ => ?_)
    rw [hix]
    repeat (first | refine GD ?_ | refine NW fun _ => ?_)
    refine WL.step rfl (OP.load1 (v := .int .i64 v) rfl rfl rfl rfl (hel1 MM) rfl rfl ?_)
    repeat (first | refine GD ?_ | refine NW fun _ => ?_)
    refine WL.step rfl (OP.append (ds := [iV v]) rfl rfl rfl rfl rfl rfl rfl rfl rfl P1 (Ent.own MM) rfl (by omega) (by omega) rfl rfl (fun a' cap' => ?_))
    repeat (first | refine GD ?_ | refine NW fun _ => ?_)
    exact ⟨(i + 1, a', cap'), by dsimp only; omega, by dsimp only; omega, ⟨rfl, rfl, rfl, rfl, rfl, rfl, trivial⟩, by dsimp only; rw [hsn, List.map_append]; exact II⟩
  obtain rfl : i = n1 := by omega
  rw [List.take_of_length_le (by rw [List.length_reverse]; omega)]
  repeat (first | refine GD ?_ | refine NW fun _ => ?_)
  refine WC.loop (σ := Nat) (fun j => j ≤ 4)
    (fun j => [(1, .val (.slice a1 i c1)), (7, .val (.pointer (some ⟨p, 0, none⟩))), (8, .val (.pointer (some ⟨q, 0, none⟩))), (12, .val (.slice a12 i cap12)), (103, .val (.int .i64 j))])
    (fun _ => [ownS a12 i cap12 3 1 (vols.reverse.map iV), mtab q S, mtab p S, A]) (fun j => 4 - j) 0 (Nat.zero_le _) ⟨rfl, rfl, rfl, rfl, rfl, trivial⟩ II ?_
  rintro j hj
  by_cases hj4 : j < 4
  · repeat (first | refine GD ?_ | refine NW fun _ => ?_)
    refine WL.step rfl (OP.callRT rfl rfl (mof_rt p S j hF) (Ent.mem (A := mtab p S) MM (up_mtab _ _) fun _ a => a) rfl rfl ?_)
    rintro _ _ ⟨aO, capO, o, ho, rfl, rfl⟩
    repeat (first | refine GD ?_ | refine NW fun _ => ?_)
    refine WL.step rfl (OP.callRT rfl rfl (mof_rt q S j hF) (Ent.mem (A := mtab q S) MM (up_mtab _ _) fun _ a => a) rfl rfl ?_)
    rintro _ _ ⟨aP, capP, o2, ho2, rfl, rfl⟩
    have hol := sorted_few hF ho
    obtain rfl : o = o2 := ho.uniq ho2 fun _ => rfl
    refine WL.step rfl (OP.callRO rfl rfl (msame_ro aO aP o.length capO o.length capP o o rfl rfl (by omega)) (Ent.and (Ent.own (T := 3) (cap := capO) MM) (Ent.own (T := 3) (cap := capP) MM)) rfl rfl ?_)
    rw [decide_eq_true (rfl : o = o)]
    repeat (first | refine GD ?_ | refine NW fun _ => ?_)
    exact ⟨j + 1, by omega, by omega, ⟨rfl, rfl, rfl, rfl, rfl, trivial⟩, II⟩
  repeat (first | refine GD ?_ | refine NW fun _ => ?_)
  refine WL.step rfl (OP.callRT rfl rfl (mnewest_rt p S a1 i c1 vols hn1 (by omega)) (Ent.and (Ent.mem (A := mtab p S) MM (up_mtab _ _) fun _ a => a) (hE1 MM)) rfl rfl ?_)
  rintro _ _ ⟨k1, hk1, rfl, rfl⟩
  repeat (first | refine GD ?_ | refine NW fun _ => ?_)
  refine WL.step rfl (OP.callRT rfl rfl (mnewest_rt q S a12 i cap12 vols.reverse (by rw [List.length_reverse]; exact hn1) (by omega)) (Ent.and (Ent.mem (A := mtab q S) MM (up_mtab _ _) fun _ a => a) (Ent.own (T := 3) (cap := cap12) MM)) rfl rfl ?_)
  rintro _ _ ⟨k2, hk2, rfl, rfl⟩
  have hkk : k1 = k2 := Int.le_antisymm
    (isNew_le hk1 hk2 fun m h1 h2 => ⟨fun e => h1 (List.reverse_eq_nil_iff.1 e), lacks_nil (fun v h => List.mem_reverse.1 h) (fun _ h => h) h2⟩)
    (isNew_le hk2 hk1 fun m h1 h2 => ⟨fun e => h1 (by rw [e]; rfl), lacks_nil (fun v h => List.mem_reverse.2 h) (fun _ h => h) h2⟩)
  subst hkk
  repeat (first | refine GD ?_ | refine NW fun _ => ?_)
  exact ret1 rfl ⟨by simp, MM⟩
end Go.Proofs.Ytacgheafbkfciaa
/- Contracts of functions of the given program, and plain laws on what they compute: parts of the proofs of laws. -/

namespace Go.Proofs.Ytacgheafbkfciaa
open Go Go.GL

def afterM (u : Int) (o : List Int) : List Int := o.filter (fun m => decide (u < m))
theorem afterM_snoc (u : Int) (o : List Int) (x : Int) : afterM u (o ++ [x]) = if u < x then afterM u o ++ [x] else afterM u o := by
  unfold afterM
  rw [List.filter_append]
  by_cases h : u < x <;> simp [h]
theorem rowS_forget (S : Int → Int → Bool) (v u : Int) (m : Int) : rowS (forgetS S v u) v m = (rowS S v m && decide (u < m)) := by
  unfold rowS
  split
  · rw [forgetS_at]
  · rfl
theorem rowS_forget_ne (S : Int → Int → Bool) {v u w : Int} (h : w ≠ v) (m : Int) : rowS (forgetS S v u) w m = rowS S w m := by
  unfold rowS
  split
  · rw [forgetS_ne h]
  · rfl
theorem SortedOf.after {S : Int → Int → Bool} {v u : Int} {o : List Int} (h : SortedOf (rowS S v) o) : SortedOf (rowS (forgetS S v u) v) (afterM u o) := by
  refine ⟨h.1.filter _, fun k => ?_⟩
  unfold afterM
  rw [List.mem_filter, h.2, rowS_forget, Bool.and_eq_true]
theorem Few.forget {S : Int → Int → Bool} {l : List Int} (F : Few S l) (v u : Int) : Few (forgetS S v u) l := F.sub fun a b h => by
  unfold forgetS at h
  split at h
  · rename_i e; subst e; rw [Bool.and_eq_true] at h; exact h.1
  · exact h
/-- told again, it is there again -/
theorem told_again {l : List MOp} {v u : Int} {o : List Int} (h : SortedOf (rowS (playS l) v) o) (m : Int) : rowS (o.foldl (fun S x => stepS S v x) (forgetS (playS l) v u)) v m = rowS (playS l) v m := by
  have go : ∀ (r : List Int) (S : Int → Int → Bool) (b : Int), r.foldl (fun S x => stepS S v x) S v b = true ↔ S v b = true ∨ (b ∈ r ∧ 0 ≤ v ∧ v < 4 ∧ 1 ≤ b) := by
    intro r
    induction r with
    | nil => intro S b; simp
    | cons x r ih =>
      intro S b
      rw [List.foldl_cons, ih, stepS_eq, Bool.or_eq_true, decide_eq_true_eq, List.mem_cons]
      constructor
      · rintro ((h | ⟨_, rfl, h⟩) | ⟨h1, h2⟩)
        · exact .inl h
        · exact .inr ⟨.inl rfl, h⟩
        · exact .inr ⟨.inr h1, h2⟩
      · rintro (h | ⟨rfl | h1, h2⟩)
        · exact .inl (.inl h)
        · exact .inl (.inr ⟨rfl, rfl, h2⟩)
        · exact .inr ⟨h1, h2⟩
  unfold rowS
  split
  · rename_i hv
    rw [Bool.eq_iff_iff, go]
    have hr : rowS (playS l) v = playS l v := by unfold rowS; rw [if_pos hv]
    have ho : ∀ k, k ∈ o ↔ playS l v k = true := fun k => by rw [h.2, hr]
    rw [forgetS_at, Bool.and_eq_true]
    constructor
    · rintro (h | ⟨h1, _⟩)
      · exact h.1
      · exact (ho m).1 h1
    · intro h1
      obtain ⟨x, _, _, h3, _, _, h4⟩ := (playS_eq l v m).1 h1
      exact .inr ⟨(ho m).2 h1, hv.1, hv.2, by omega⟩
  · rfl
theorem Few.told {l : List Int} {v : Int} : ∀ {r : List Int} {S : Int → Int → Bool}, Few S l → (∀ x ∈ r, x ∈ l ∧ (Lit.int .i64 x).wf = true) → Few (r.foldl (fun S x => stepS S v x) S) l
  | [], _, F, _ => F
  | x :: r, _, F, h => Few.told (r := r) (F.step (h x List.mem_cons_self).1 (h x List.mem_cons_self).2) fun y hy => h y (List.mem_cons_of_mem _ hy)
theorem SortedOf.few {S : Int → Int → Bool} {fl : List Int} (hF : Few S fl) {v : Int} {o : List Int} (ho : SortedOf (rowS S v) o) : ∀ x ∈ o, x ∈ fl ∧ (Lit.int .i64 x).wf = true := fun x hx => by
  have := (ho.2 x).1 hx
  unfold rowS at this
  split at this
  · exact ⟨hF.mem v x this, hF.wf v x this⟩
  · cases this
set_option maxHeartbeats 16000000 in
set_option maxRecDepth 10000 in
theorem mforgetlaw_ro (a : Option Addr) (n c : Nat) (l : List MOp) (v u : Int) (hv : -9223372036854775808 ≤ v ∧ v ≤ 9223372036854775807) (hn : n = l.length) (hw : ∀ o ∈ l, (Lit.int .i64 o.2.2).wf = true) :
    RO G 6 [.slice a n c, .int .i64 v, .int .i64 u] (readS a n 3 (l.flatMap encM)) (.bool true) := by
  refine RO.enter Try.func6 rfl (by decide) rfl Try.ntmps6 rfl (fun A hu hA => ?_) (up_readS _ _ _ _)
  have hE : ∀ {L}, A ∈ L → Ent L (readS a n 3 (l.flatMap encM)) := fun m => Ent.mem m hu hA
  obtain ⟨v1, hv1, hv1n⟩ : ∃ v1, v1 = IntKind.i64.wrap (v + 1) ∧ v1 ≠ v := by
    refine ⟨_, rfl, ?_⟩
    by_cases h : v = 9223372036854775807
    · subst h; decide
    · rw [wrap_fit (by unfold Fit; simp; omega)]
      omega
  repeat (first | refine GD ?_ | refine NW fun _ => ?_)
  refine WL.step rfl (OP.callRO rfl rfl mawake_ro (fun _ _ => trivial) rfl rfl ?_)
  by_cases h200 : 200 < n
  · repeat (first | refine GD ?_ | refine NW fun _ => ?_)
    refine WL.step rfl (OP.callRO rfl rfl mawake_ro (fun _ _ => trivial) rfl rfl ?_)
    repeat (first | refine GD ?_ | refine NW fun _ => ?_)
    exact ret1 rfl ⟨rfl, MM⟩
  repeat (first | refine GD ?_ | refine NW fun _ => ?_)
  rename_i p
  refine WC.imp (mtabNil p) ?_
  refine WC.loop (σ := Nat) (fun k => k ≤ n)
    (fun k => [(0, .val (.slice a n c)), (1, .val (.int .i64 v)), (2, .val (.int .i64 u)), (7, .val (.pointer (some ⟨p, 0, none⟩))), (25, .val (.int .i64 n)), (26, .val (.int .i64 k))])
    (fun k => [mtab p (playS (l.take k)), A]) (fun k => n - k) 0 (Nat.zero_le _) ⟨rfl, rfl, rfl, rfl, rfl, rfl, trivial⟩ (Imp.refl _) ?_
  rintro k hk
  by_cases hlt : k < n
  · have hlk : k < l.length := by omega
    have hsn : playS (l.take (k + 1)) = stepS (playS (l.take k)) l[k].2.1 l[k].2.2 := by rw [← List.take_append_getElem hlk, playS_snoc]
    refine WC.fact (Ent.some (hE MM) (by omega)) ?_
    rintro ⟨b, off, rfl⟩
    have hel : ∀ {L} (i : Nat) (v : Value), Nat.blt i 3 = true → (encM l[k])[i]? = some v → A ∈ L → Ent L (cellAt b (off + k * 3 + i) v) := fun i v hi hv m => Ent.elF encM_len (hE m) hlk hi hv
    generalize l[k] = o at *
    obtain ⟨kd, v, m⟩ := o
    dsimp only at hsn
    repeat (first | refine GD ?_ | refine NW fun _ => ?_)
    refine RD 11 12 (_) ?_
    refine WP 0 ?_
    refine WP 1 ?_
    refine WP 2 ?_
    refine WP 3 ?_
    refine WP 4 ?_
    refine VL 5 (.int .i64 v) rfl rfl rfl rfl (.inl ⟨rfl, hel 1 _ rfl rfl MM⟩) ?_
    refine WP 6 ?_
    refine WP 7 ?_
    refine WP 8 ?_
    refine WP 9 ?_
    refine VL 10 (.int .i64 m) rfl rfl rfl rfl (.inl ⟨rfl, hel 2 _ rfl rfl MM⟩) ?_
    refine WH.only 11 rfl rfl (by kernel_rfl) rfl (OP.call (pre := [mtab p (playS (l.take k))]) rfl rfl (mput_ok p _ v m) PS rfl rfl (fun x M hM => ?_))
    obtain ⟨E, rfl⟩ := hM.one
    refine ⟨(fun h => nomatch h), ?_⟩
    refine DN ?_
    repeat (first | refine GD ?_ | refine NW fun _ => ?_)
    exact ⟨k + 1, by omega, by omega, ⟨rfl, rfl, rfl, rfl, rfl, rfl, trivial⟩, by rw [hsn]; exact Imp.dropE E [mtab p (stepS (playS (l.take k)) v m)] [A]⟩
  obtain rfl : k = l.length := by omega
  have hF := playFew hw (by omega)
  rw [List.take_length]
  obtain ⟨S, hS⟩ : ∃ S, S = playS l := ⟨_, rfl⟩
  have htold : ∀ {o : List Int}, SortedOf (rowS S v) o → ∀ m, rowS (o.foldl (fun S x => stepS S v x) (forgetS S v u)) v m = rowS S v m := by subst hS; exact fun h m => told_again h m
  rw [← hS] at hF ⊢
  clear hS
  repeat (first | refine GD ?_ | refine NW fun _ => ?_)
  refine WL.step rfl (OP.callRT rfl rfl (mof_rt p S v hF) (Ent.mem (A := mtab p S) MM (up_mtab _ _) fun _ a => a) rfl rfl ?_)
  rintro _ _ ⟨aO, capO, o, ho, rfl, rfl⟩
  have hol := sorted_few hF ho
  repeat (first | refine GD ?_ | refine NW fun _ => ?_)
  refine WC.imp (Imp.nilS 3 1) ?_
  refine WC.loop (σ := Nat × Option Addr × Nat) (fun s => s.1 ≤ o.length)
    (fun s => [(1, .val (.int .i64 v)), (2, .val (.int .i64 u)), (7, .val (.pointer (some ⟨p, 0, none⟩))), (9, .val (.slice s.2.1 (afterM u (o.take s.1)).length s.2.2)), (10, .val (.slice aO o.length capO)), (46, .val (.int .i64 o.length)), (47, .val (.int .i64 s.1))])
    (fun s => [ownS s.2.1 (afterM u (o.take s.1)).length s.2.2 3 1 ((afterM u (o.take s.1)).map iV), ownS aO o.length capO 3 1 (o.map iV), mtab p S, A]) (fun s => o.length - s.1) (0, none, 0) (Nat.zero_le _) ⟨rfl, rfl, rfl, rfl, rfl, rfl, rfl, trivial⟩ II ?_
  rintro ⟨j, a9, cap9⟩ hj
  dsimp only at hj ⊢
  by_cases hlj : j < o.length
  · have hsn : afterM u (o.take (j + 1)) = if u < o[j] then afterM u (o.take j) ++ [o[j]] else afterM u (o.take j) := by rw [← List.take_append_getElem hlj, afterM_snoc]
    have hle : (afterM u (o.take j)).length ≤ o.length := Nat.le_trans (List.length_filter_le _ _) (by rw [List.length_take]; omega)
    refine WC.fact (Ent.some (Ent.own (T := 3) (cap := capO) (cs := o.map iV) MM) (by omega)) ?_
    rintro ⟨bO, offO, rfl⟩
    have helO : ∀ {L}, ownS (some ⟨bO, offO, none⟩) o.length capO 3 1 (o.map iV) ∈ L → Ent L (cellAt bO (offO + j * 1) (iV o[j])) := fun m => Ent.elem (Ent.own m) rfl (int_get hlj)
    generalize o[j] = x at *
    generalize afterM u (o.take j) = W at *
    repeat (first | refine GD ?_ | refine NW fun _ => ?_)
    refine WL.step rfl (OP.load1 (v := .int .i64 x) rfl rfl rfl rfl (helO MM) rfl rfl ?_)
    by_cases hxu : u < x
    · rw [if_pos hxu] at hsn
      have hl1 : (W ++ [x]).length = W.length + 1 := by simp
      repeat (first | refine GD ?_ | refine NW fun _ => ?_)
      refine WL.step rfl (OP.load1 (v := .int .i64 x) rfl rfl rfl rfl (helO MM) rfl rfl ?_)
      repeat (first | refine GD ?_ | refine NW fun _ => ?_)
      refine WL.step rfl (OP.append (ds := [iV x]) rfl rfl rfl rfl rfl rfl rfl rfl rfl P1 (Ent.own MM) rfl (by omega) (by omega) rfl rfl (fun a' cap' => ?_))
      repeat (first | refine GD ?_ | refine NW fun _ => ?_)
      exact ⟨(j + 1, a', cap'), by dsimp only; omega, by dsimp only; omega, ⟨rfl, rfl, rfl, by dsimp only; rw [hsn, hl1]; rfl, rfl, rfl, rfl, trivial⟩, by dsimp only; rw [hsn, hl1, List.map_append]; exact II⟩
    · rw [if_neg hxu] at hsn
      repeat (first | refine GD ?_ | refine NW fun _ => ?_)
      exact ⟨(j + 1, a9, cap9), by dsimp only; omega, by dsimp only; omega, ⟨rfl, rfl, rfl, by dsimp only; rw [hsn]; rfl, rfl, rfl, rfl, trivial⟩, by dsimp only; rw [hsn]; exact II⟩
  obtain rfl : j = o.length := by omega
  rw [List.take_length]
  have hle : (afterM u o).length ≤ o.length := List.length_filter_le _ _
  have haf := ho.after (u := u)
  generalize afterM u o = W at *
  have hF2 := hF.forget v u
  repeat (first | refine GD ?_ | refine NW fun _ => ?_)
  rw [← hv1]
  refine WL.step rfl (OP.callRT rfl rfl (mof_rt p S v1 hF) (Ent.mem (A := mtab p S) MM (up_mtab _ _) fun _ a => a) rfl rfl ?_)
  rintro _ _ ⟨aN, capN, on, hon, rfl, rfl⟩
  have honl := sorted_few hF hon
  repeat (first | refine GD ?_ | refine NW fun _ => ?_)
  refine WL.step rfl (OP.call (pre := [mtab p S]) rfl rfl (mforget_ok p S v u) PS rfl rfl ?_)
  rintro _ _ ⟨rfl, rfl⟩
  repeat (first | refine GD ?_ | refine NW fun _ => ?_)
  refine WL.step rfl (OP.callRT rfl rfl (mof_rt p (forgetS S v u) v hF2) (Ent.mem (A := mtab p (forgetS S v u)) MM (up_mtab _ _) fun _ a => a) rfl rfl ?_)
  rintro _ _ ⟨aQ, capQ, oq, hoq, rfl, rfl⟩
  obtain rfl : oq = W := hoq.uniq haf fun _ => rfl
  repeat (first | refine GD ?_ | refine NW fun _ => ?_)
  refine WL.step rfl (OP.callRO rfl rfl (msame_ro aQ a9 oq.length capQ oq.length cap9 oq oq rfl rfl (by omega)) (Ent.and (Ent.own (T := 3) (cap := capQ) MM) (Ent.own (T := 3) (cap := cap9) MM)) rfl rfl ?_)
  rw [decide_eq_true (rfl : oq = oq)]
  repeat (first | refine GD ?_ | refine NW fun _ => ?_)
  rw [← hv1]
  refine WL.guardT rfl rfl rfl rfl (OP.callRT rfl rfl (mof_rt p (forgetS S v u) v1 hF2) (Ent.mem (A := mtab p (forgetS S v u)) MM (up_mtab _ _) fun _ a => a) rfl rfl ?_)
  rintro _ _ ⟨aR, capR, or, hor, rfl, rfl⟩
  obtain rfl : or = on := hor.uniq hon fun k => rowS_forget_ne S hv1n k
  repeat (first | refine GD ?_ | refine NW fun _ => ?_)
  refine WL.guardT rfl rfl rfl rfl (OP.callRO rfl rfl (msame_ro aR aN or.length capR or.length capN or or rfl rfl (by omega)) (Ent.and (Ent.own (T := 3) (cap := capR) MM) (Ent.own (T := 3) (cap := capN) MM)) rfl rfl ?_)
  rw [decide_eq_true (rfl : or = or)]
  have hte := htold ho
  repeat (first | refine GD ?_ | refine NW fun _ => ?_)
  refine WC.loop (σ := Nat) (fun j => j ≤ o.length)
    (fun j => [(1, .val (.int .i64 v)), (7, .val (.pointer (some ⟨p, 0, none⟩))), (10, .val (.slice aO o.length capO)), (88, .val (.int .i64 o.length)), (89, .val (.int .i64 j))])
    (fun j => [mtab p ((o.take j).foldl (fun S x => stepS S v x) (forgetS S v u)), ownS aO o.length capO 3 1 (o.map iV), A]) (fun j => o.length - j) 0 (Nat.zero_le _) ⟨rfl, rfl, rfl, rfl, rfl, trivial⟩ II ?_
  rintro j hj
  by_cases hlj : j < o.length
  · have hsn : (o.take (j + 1)).foldl (fun S x => stepS S v x) (forgetS S v u) = stepS ((o.take j).foldl (fun S x => stepS S v x) (forgetS S v u)) v o[j] := by rw [← List.take_append_getElem hlj, List.foldl_append]; rfl
    refine WC.fact (Ent.some (Ent.own (T := 3) (cap := capO) (cs := o.map iV) MM) (by omega)) ?_
    rintro ⟨bO, offO, rfl⟩
    have helO : ∀ {L}, ownS (some ⟨bO, offO, none⟩) o.length capO 3 1 (o.map iV) ∈ L → Ent L (cellAt bO (offO + j * 1) (iV o[j])) := fun m => Ent.elem (Ent.own m) rfl (int_get hlj)
    generalize o[j] = x at *
    generalize (o.take j).foldl (fun S x => stepS S v x) (forgetS S v u) = S1 at *
    repeat (first | refine GD ?_ | refine NW fun _ => ?_)
    refine WL.step rfl (OP.load1 (v := .int .i64 x) rfl rfl rfl rfl (helO MM) rfl rfl ?_)
    refine WL.step rfl (OP.call (pre := [mtab p S1]) rfl rfl (mput_ok p S1 v x) PS rfl rfl ?_)
    intro y M hM
    obtain ⟨E, rfl⟩ := hM.one
    repeat (first | refine GD ?_ | refine NW fun _ => ?_)
    exact ⟨j + 1, by omega, by omega, ⟨rfl, rfl, rfl, rfl, rfl, trivial⟩, by rw [hsn]; exact Imp.trans (Imp.dropE E [mtab p (stepS S1 v x)] _) II⟩
  obtain rfl : j = o.length := by omega
  rw [List.take_length]
  have hF3 : Few (o.foldl (fun S x => stepS S v x) (forgetS S v u)) (keysM l) := Few.told hF2 (SortedOf.few hF ho)
  generalize o.foldl (fun S x => stepS S v x) (forgetS S v u) = S3 at *
  repeat (first | refine GD ?_ | refine NW fun _ => ?_)
  refine WL.step rfl (OP.callRT rfl rfl (mof_rt p S3 v hF3) (Ent.mem (A := mtab p S3) MM (up_mtab _ _) fun _ a => a) rfl rfl ?_)
  rintro _ _ ⟨aT, capT, ot, hot, rfl, rfl⟩
  obtain rfl : ot = o := hot.uniq ho hte
  repeat (first | refine GD ?_ | refine NW fun _ => ?_)
  refine WL.step rfl (OP.callRO rfl rfl (msame_ro aT aO ot.length capT ot.length capO ot ot rfl rfl (by omega)) (Ent.and (Ent.own (T := 3) (cap := capT) MM) (Ent.own (T := 3) (cap := capO) MM)) rfl rfl ?_)
  rw [decide_eq_true (rfl : ot = ot)]
  repeat (first | refine GD ?_ | refine NW fun _ => ?_)
  exact ret1 rfl ⟨rfl, MM⟩
end Go.Proofs.Ytacgheafbkfciaa
