/- Contracts of functions of the given program, and plain laws: parts of the proofs of laws. -/
import Derived.Test.YteednjcoapmkaaaGreatDoorZVol7
import Derived.Test.YteednjcoapmkaaaGreatDoorZVol20
import Derived.Test.YteednjcoapmkaaaGreatDoorZVol19
import Derived.Test.YteednjcoapmkaaaGreatDoorZVol9
import Derived.Test.YteednjcoapmkaaaGreatDoorZVol5
import Derived.Test.YteednjcoapmkaaaGreatDoorZVol16
import Derived.Test.YteednjcoapmkaaaGreatDoorZVol6
/- Contracts of functions of the given program, and plain laws on what they compute: parts of the proofs of laws. -/

namespace Go.Proofs.YteednjcoapmkaaaGreatDoor
open Go Go.GL

def ROpenVP (p : Nat) (D : Dsk) (ring : Int) (x : Value) (M : List Assn) : Prop := match openV D ring with
  | .ok (V, D') => ∃ v, x = .tuple #[.pointer (some ⟨v, 0, none⟩), .int .i64 0] ∧ M = [rvol v p V, rdsk p D']
  | .error (_, c) => x = .tuple #[.pointer none, .int .i64 c] ∧ M = []
theorem openM_code {D : Dsk} {n c : Int} (h : openM D n = .error c) : c = 1 ∨ c = 4 := by
  unfold openM at h
  split at h
  · cases h; exact .inl rfl
  · split at h
    · cases h; exact .inr rfl
    · cases h
set_option maxHeartbeats 8000000 in
set_option maxRecDepth 10000 in
theorem rvopen_ok (p : Nat) (D : Dsk) (ring : Int) (hD : D.ok) (hw : D.W.length < 10000) (hr64 : -9223372036854775808 ≤ ring ∧ ring ≤ 9223372036854775807) :
    Triple G 36 [.pointer (some ⟨p, 0, none⟩), .int .i64 ring] [rdsk p D] (ROpenVP p D ring) := by
  refine Triple.enter Tryz.func36 rfl (by decide) rfl Tryz.ntmps36 rfl (fun F => ?_)
  have hfew := hD.few
  have hdef : openV D ring = if ring < 1 ∨ 512 < ring ∨ (D.S.length : Int) < 10 + ring then .error ([(volTx, ring)], 1)
    else match openM D ring with
    | .error c => .error ([(volTx, ring), (jrnTx, ring)], c)
    | .ok (J, D') => match plcsM D' ring.toNat with
      | none => .error ([(volTx, ring)], 4)
      | some l => .ok (⟨J, l, takeAll l J.held⟩, D') := rfl
  by_cases h1 : ring < 1
  · have hop : openV D ring = .error ([(volTx, ring)], 1) := by rw [hdef, if_pos (.inl h1)]
    repeat (first | refine GD ?_ | refine NW fun _ => ?_)
    refine ret2 rfl rfl ⟨[], ?_, II⟩
    unfold ROpenVP
    rw [hop]
    exact ⟨rfl, rfl⟩
  by_cases h2 : 512 < ring
  · have hop : openV D ring = .error ([(volTx, ring)], 1) := by rw [hdef, if_pos (.inr (.inl h2))]
    repeat (first | refine GD ?_ | refine NW fun _ => ?_)
    refine ret2 rfl rfl ⟨[], ?_, II⟩
    unfold ROpenVP
    rw [hop]
    exact ⟨rfl, rfl⟩
  refine WC.open P1 (fun x => ?_)
  unfold rdskL
  dsimp only [List.cons_append, List.nil_append]
  by_cases h3 : (D.S.length : Int) < 2 + ring + 8
  · have hop : openV D ring = .error ([(volTx, ring)], 1) := by rw [hdef, if_pos (.inr (.inr (by omega)))]
    repeat (first | refine GD ?_ | refine NW fun _ => ?_)
    refine ret2 rfl rfl ⟨[], ?_, II⟩
    unfold ROpenVP
    rw [hop]
    exact ⟨rfl, rfl⟩
  rw [if_neg (by omega)] at hdef
  have hjo := ropen_ok p D ring hD hw hr64
  unfold ROpenJ at hjo
  repeat (first | refine GD ?_ | refine NW fun _ => ?_)
  refine WL.imp (M := [rdsk p D, F]) (Imp.trans II (rdskFold p D x)) ?_
  refine WL.step rfl (OP.call (pre := [rdsk p D]) rfl rfl hjo PS rfl rfl ?_)
  intro y M hO
  cases hq : openM D ring with
  | error c =>
    rw [hq] at hO hdef
    obtain ⟨rfl, rfl⟩ := hO
    have hc : ¬ c = 0 := by rcases openM_code hq with rfl | rfl <;> decide
    have hop : openV D ring = .error ([(volTx, ring), (jrnTx, ring)], c) := hdef
    repeat (first | refine GD ?_ | refine NW fun _ => ?_)
    refine ret2 rfl rfl ⟨[], ?_, II⟩
    unfold ROpenVP
    rw [hop]
    exact ⟨rfl, rfl⟩
  | ok z =>
    obtain ⟨J, D2⟩ := z
    rw [hq] at hO hdef
    obtain ⟨j, rfl, rfl⟩ := hO
    obtain ⟨n, rfl⟩ : ∃ n : Nat, ring = n := ⟨ring.toNat, by omega⟩
    rw [Int.toNat_natCast] at hdef
    dsimp only at hdef
    obtain ⟨hJr, hJlen, hJright, hDok, hDlen, hDfew, hJrng⟩ := openM_facts hD hq
    clear hjo
    repeat (first | refine GD ?_ | refine NW fun _ => ?_)
    rename_i v
    refine WC.imp (M := [blk v (rvolD p j n (List.replicate 8 plc0) (List.replicate 8 plc0)) 84, rjrn j p J, rdsk p D2, F]) (Imp.refl _) ?_
    have hl8 : ∀ {k : Nat} {l : List Plc}, l.length + k = 8 → (l ++ List.replicate k plc0).length = 8 := fun h => by simp; exact h
    refine WC.loop (σ := Nat × List Plc) (fun s => s.2.length + s.1 = 8 ∧ plcsF D2 n s.1 s.2 = plcsM D2 n)
      (fun s => [(0, .val (.pointer (some ⟨p, 0, none⟩))), (1, .val (.int .i64 n)), (8, .val (.pointer (some ⟨v, 0, none⟩))), (9, .val (.int .i64 s.2.length))])
      (fun s => [blk v (rvolD p j n (s.2 ++ List.replicate s.1 plc0) (s.2 ++ List.replicate s.1 plc0)) 84, rjrn j p J, rdsk p D2, F]) (fun s => s.1) (8, []) ⟨rfl, rfl⟩ ⟨rfl, rfl, rfl, rfl, trivial⟩ (Imp.refl _) ?_
    rintro ⟨k, l⟩ ⟨hk, hs⟩
    dsimp only at hk hs ⊢
    cases k with
    | zero =>
      have hk8 : l.length = 8 := hk
      rw [hk8]
      have hap : l ++ List.replicate 0 plc0 = l := List.append_nil l
      rw [hap]
      have hpl : plcsM D2 n = some l := hs.symm
      rw [hpl] at hdef
      dsimp only at hdef
      repeat (first | refine GD ?_ | refine NW fun _ => ?_)
      refine ret2 rfl rfl ⟨[rvol v p ⟨J, l, takeAll l J.held⟩, rdsk p D2], ?_, ?_⟩
      · unfold ROpenVP
        rw [hdef]
        exact ⟨v, rfl, rfl⟩
      · refine Imp.trans ?_ (rvolFold v p ⟨J, l, takeAll l J.held⟩ j)
        dsimp only
        rw [hJr]
        exact Imp.refl _
    | succ k =>
      have hlt : l.length < 8 := by omega
      have hst : plcsF D2 n (k + 1) l = match plcOf (D2.cur (2 + n + l.length)) l.length with
        | some x => plcsF D2 n k (l ++ [x])
        | none => none := rfl
      rw [hst] at hs
      have h64 := Dsk.cur_64 hDok (show 2 + n + l.length < D2.S.length by omega)
      have hrd := rdread_ro p D2 (2 + n + l.length) (by omega)
      unfold RRdV at hrd
      rw [if_pos (by omega), show (2 + (n : Int) + l.length).toNat = 2 + n + l.length by omega] at hrd
      generalize hb : D2.cur (2 + n + l.length) = b at *
      have hto := rtold_ro b l.length (by omega)
      unfold QToldV at hto
      repeat (first | refine GD ?_ | refine NW fun _ => ?_)
      refine WL.step rfl (OP.callRO rfl rfl hrd (Ent.at (up_rdsk p D2) MM) rfl rfl ?_)
      repeat (first | refine GD ?_ | refine NW fun _ => ?_)
      refine WL.step rfl (OP.callRO rfl rfl hto (fun _ _ => trivial) rfl rfl ?_)
      cases hx : plcOf b l.length with
      | none =>
        rw [hx] at hs
        have hop : openV D n = .error ([(volTx, (n : Int))], 4) := by rw [hdef, ← hs]
        repeat (first | refine GD ?_ | refine NW fun _ => ?_)
        refine ret2 rfl rfl ⟨[], ?_, II⟩
        unfold ROpenVP
        rw [hop]
        exact ⟨rfl, rfl⟩
      | some x =>
        rw [hx] at hs
        have hset : (l ++ List.replicate (k + 1) plc0).set l.length x = (l ++ [x]) ++ List.replicate k plc0 := by
          rw [List.set_append_right _ _ (Nat.le_refl _), Nat.sub_self, List.append_assoc]
          rfl
        have hb8 : l.length < (l ++ List.replicate (k + 1) plc0).length := by rw [hl8 hk]; exact hlt
        have hs1 := rvolD_setN (p := p) (j := j) (ring := n) (l2 := l ++ List.replicate (k + 1) plc0) x hb8
        have hs2 := rvolD_setD (p := p) (j := j) (ring := n) (l1 := (l ++ [x]) ++ List.replicate k plc0) (by rw [← hset, List.length_set]; exact hl8 hk) x hb8
        rw [hset] at hs1 hs2
        have hln : (l ++ [x]).length = l.length + 1 := by simp
        repeat refine GS ?_
        refine WL.step rfl (OP.store (vs := [numC x]) (M := [blk v (rvolD p j n ((l ++ [x]) ++ List.replicate k plc0) (l ++ List.replicate (k + 1) plc0)) 84, rjrn j p J, rdsk p D2, F]) rfl rfl rfl rfl rfl rfl rfl (UpdM.here (by rw [Nat.zero_add]; exact hs1)) rfl ?_)
        repeat refine GS ?_
        refine WL.step rfl (OP.store (vs := [datC x]) (M := [blk v (rvolD p j n ((l ++ [x]) ++ List.replicate k plc0) ((l ++ [x]) ++ List.replicate k plc0)) 84, rjrn j p J, rdsk p D2, F]) rfl rfl rfl rfl rfl rfl rfl (UpdM.here (by rw [Nat.zero_add]; exact hs2)) rfl ?_)
        repeat (first | refine GD ?_ | refine NW fun _ => ?_)
        exact ⟨(k, l ++ [x]), ⟨by dsimp only; omega, hs⟩, Nat.lt_succ_self k, ⟨rfl, rfl, rfl, by dsimp only; rw [hln]; rfl, trivial⟩, II⟩
end Go.Proofs.YteednjcoapmkaaaGreatDoor
/- Contracts of functions of the given program, and plain laws on what they compute: parts of the proofs of laws. -/

namespace Go.Proofs.YteednjcoapmkaaaGreatDoor
open Go Go.GL

theorem uptoV_first {h : List Held} {n first : Int} (hseq : ∀ i (hi : i < h.length), (h[i]).2.1 = first + i) {k : Nat} (hk : k ≤ h.length) (h1 : ∀ i (hi : i < h.length), i < k → (h[i]).2.1 ≤ n) (h2 : ∀ (hi : k < h.length), n < (h[k]).2.1) : uptoV h n = k := by
  unfold uptoV
  rw [← List.take_append_drop k h, List.filter_append, List.length_append]
  have e1 : (h.take k).filter (fun x => decide (x.2.1 ≤ n)) = h.take k := by
    rw [List.filter_eq_self]
    intro x hx
    obtain ⟨i, hi, rfl⟩ := List.getElem_of_mem hx
    rw [List.length_take] at hi
    rw [List.getElem_take]
    exact decide_eq_true (h1 i (by omega) (by omega))
  have e2 : (h.drop k).filter (fun x => decide (x.2.1 ≤ n)) = [] := by
    rw [List.filter_eq_nil_iff]
    intro x hx
    obtain ⟨i, hi, rfl⟩ := List.getElem_of_mem hx
    rw [List.length_drop] at hi
    rw [List.getElem_drop]
    have := h2 (by omega)
    have a := hseq (k + i) (by omega)
    have b := hseq k (by omega)
    intro hd
    have := of_decide_eq_true hd
    omega
  rw [e1, e2, List.length_take, List.length_nil]
  omega
theorem rvolD_allN {p j ring : Nat} {l1 l2 : List Plc} (h1 : l1.length = 8) (l : List Plc) (h : l.length = 8) : setMany (rvolD p j ring l1 l2) 3 (l.map numC) = some (rvolD p j ring l l2) :=
  setMany_mid (l.map numC) [Value.pointer (some ⟨p, 0, none⟩), .pointer (some ⟨j, 0, none⟩), .int .i64 ring] (l1.map numC) (l2.map datC) (by rw [List.length_map, List.length_map, h1, h])
theorem rvolD_allD {p j ring : Nat} {l1 l2 : List Plc} (h1 : l1.length = 8) (h2 : l2.length = 8) (l : List Plc) (h : l.length = 8) : setMany (rvolD p j ring l1 l2) 11 (l.map datC) = some (rvolD p j ring l1 l) := by
  have hl : ([Value.pointer (some ⟨p, 0, none⟩), .pointer (some ⟨j, 0, none⟩), .int .i64 ring] ++ l1.map numC).length = 11 := by
    rw [List.length_append, List.length_map, h1]; rfl
  have e := setMany_mid (l.map datC) ([Value.pointer (some ⟨p, 0, none⟩), .pointer (some ⟨j, 0, none⟩), .int .i64 ring] ++ l1.map numC) (l2.map datC) [] (by rw [List.length_map, List.length_map, h2, h])
  rw [hl, List.append_nil, List.append_nil] at e
  exact e
def RCkVP (v p : Nat) (V : Vol) (D : Dsk) (upto : Int) (x : Value) (M : List Assn) : Prop := match ckV V D upto with
  | .ok (V', D') => x = .int .i64 0 ∧ M = [rvol v p V', rdsk p D']
  | .error (_, c) => x = .int .i64 c ∧ M = [rvol v p V, rdsk p D]
set_option maxHeartbeats 8000000 in
set_option maxRecDepth 10000 in
theorem rvcheck_ok (v p : Nat) (V : Vol) (D : Dsk) (upto : Int) (hV : V.rng) (hB : V.blks = takeAll V.laid V.J.held) (hr : ∀ x ∈ V.J.held, x.2.2.1 = 1 → 0 ≤ x.2.2.2.1 ∧ x.2.2.2.1 < 8) (hseq : ∀ i (hi : i < V.J.held.length), (V.J.held[i]).2.1 = V.J.hd.first + i)
    (hD : D.ok) (hl : 10 + V.J.ring ≤ D.S.length) (hw : D.W.length < 9000) :
    Triple G 50 [.pointer (some ⟨v, 0, none⟩), .int .i64 upto] [rvol v p V, rdsk p D] (RCkVP v p V D upto) := by
  refine Triple.enter Tryz.func50 rfl (by decide) rfl Tryz.ntmps50 rfl (fun F => ?_)
  have hdef : ckV V D upto = if upto < 0 ∨ V.J.next ≤ upto then .error ([(volTx, upto)], 5)
    else match trimM V.J (layV V D) (uptoV V.J.held upto) with
      | .ok (J', D') => .ok (⟨J', V.blks, V.blks⟩, D')
      | .error c => .error ([(jrnTx, (uptoV V.J.held upto : Nat))], c) := rfl
  unfold RCkVP
  rw [hdef]
  have hJ := hV.J
  have hJlen : V.J.held.length ≤ 512 := by have h1 := hV.J.2; have h2 := hV.J.1; omega
  by_cases h1 : upto < 0
  · rw [if_pos (.inl h1)]
    repeat (first | refine GD ?_ | refine NW fun _ => ?_)
    exact ret1 rfl ⟨_, ⟨rfl, rfl⟩, Imp.refl _⟩
  refine WC.imp (rvolOut v p V) ?_
  refine WC.open P1 (fun j => WC.imp (M := [blk v (rvolC p j V.J.ring V.laid) 84, rjrn j p V.J, rdsk p D, F]) (Imp.refl _) ?_)
  repeat (first | refine GD ?_ | refine NW fun _ => ?_)
  refine WL.guardT rfl rfl rfl rfl (OP.callRO rfl rfl (rnext_ro j p V.J hJ) (Ent.at (up_rjrn j p V.J) MM) rfl rfl ?_)
  by_cases h2 : V.J.next ≤ upto
  · rw [if_pos (.inr h2)]
    repeat (first | refine GD ?_ | refine NW fun _ => ?_)
    exact ret1 rfl ⟨_, ⟨rfl, rfl⟩, Imp.trans II (rvolFold v p V j)⟩
  rw [if_neg (fun h => h.elim h1 h2)]
  obtain ⟨J', D', htr, hrg⟩ := trimM_ok (D := layV V D) (uptoV_le V.J.held upto)
  rw [htr]
  have hfl : D.flush.ok := Dsk.settle_ok hD _
  have hfs : D.flush.S.length = D.S.length := Dsk.settle_len D _
  have hfw : D.flush.W.length = 0 := rfl
  repeat (first | refine GD ?_ | refine NW fun _ => ?_)
  refine WL.step rfl (OP.call (pre := [rdsk p D]) rfl rfl (rdflush_ok p D hD (by omega)) PS rfl rfl ?_)
  rintro _ _ ⟨rfl, rfl⟩
  repeat (first | refine GD ?_ | refine NW fun _ => ?_)
  rename_i x5 x6
  have hEv : ∀ {L}, Imp L [blk v (rvolC p j V.J.ring V.laid) 84, rjrn j p V.J] → Ent L (rvol v p V) := fun i h s => Ent.at (up_rvol v p V) (List.Mem.head _) h ((i.trans (rvolFold v p V j (N := []))) h s)
  have hLk : ∀ k, k ≤ 8 → (V.blks.take k ++ List.replicate (8 - k) plc0).length = 8 := fun k hk => by simp; rw [hV.b8]; omega
  refine WC.loop (σ := Nat) (fun k => k ≤ 8)
    (fun k => [(0, .val (.pointer (some ⟨v, 0, none⟩))), (1, .val (.int .i64 upto)), (5, .val (.pointer (some ⟨x5, 0, none⟩))), (6, .val (.pointer (some ⟨x6, 0, none⟩))), (7, .val (.int .i64 k))])
    (fun k => [blk x5 ((V.blks.take k ++ List.replicate (8 - k) plc0).map numC) 81, blk x6 ((V.blks.take k ++ List.replicate (8 - k) plc0).map datC) 82, blk v (rvolC p j V.J.ring V.laid) 84, rjrn j p V.J, rdsk p (layF V.J.ring V.laid V.blks k D.flush), F]) (fun k => 8 - k) 0 (Nat.zero_le _) ⟨rfl, rfl, rfl, rfl, rfl, trivial⟩ II ?_
  rintro k hk
  have hko := layF_ok V.J.ring V.laid V.blks hV.b8 hV.s hfl (by omega) k hk
  have hkl := layF_len V.J.ring V.laid V.blks k D.flush
  have hkw := layF_w V.J.ring V.laid V.blks k D.flush
  by_cases hlt : k < 8
  rotate_left
  · have he : k = 8 := by omega
    subst he
    have hlay8 : layV V D = (layF V.J.ring V.laid V.blks 8 D.flush).flush := rfl
    rw [hlay8] at htr
    generalize layF V.J.ring V.laid V.blks 8 D.flush = D8 at *
    have hf8 : D8.flush.ok := Dsk.settle_ok hko _
    have hs8 : D8.flush.S.length = D8.S.length := Dsk.settle_len D8 _
    have hw8 : D8.flush.W.length = 0 := rfl
    have e8 : V.blks.take 8 ++ List.replicate (8 - 8) plc0 = V.blks := by rw [Nat.sub_self, List.take_of_length_le (by rw [hV.b8]; exact Nat.le_refl _)]; exact List.append_nil _
    rw [e8]
    have h1n : ∀ l : List Plc, allOne (l.map numC) = true := fun l => by
      induction l with
      | nil => rfl
      | cons x r ih => rw [List.map_cons]; simpa [numC, allOne, one] using ih
    have h1d : ∀ l : List Plc, allOne (l.map datC) = true := fun l => by
      induction l with
      | nil => rfl
      | cons x r ih => rw [List.map_cons]; simpa [datC, allOne, one] using ih
    have hcn : (V.blks.map numC).length = 8 := by rw [List.length_map]; exact hV.b8
    have hcd : (V.blks.map datC).length = 8 := by rw [List.length_map]; exact hV.b8
    have hrC : rvolC p j V.J.ring V.laid = rvolD p j V.J.ring V.laid V.laid := rfl
    rw [hrC]
    have hsN := rvolD_allN (p := p) (j := j) (ring := V.J.ring) (l2 := V.laid) hV.l8 V.blks hV.b8
    have hsD := rvolD_allD (p := p) (j := j) (ring := V.J.ring) hV.b8 hV.l8 V.blks hV.b8
    repeat (first | refine GD ?_ | refine NW fun _ => ?_)
    refine RD 10 10 [blk x5 (V.blks.map numC) 81, blk x6 (V.blks.map datC) 82, rjrn j p V.J, rdsk p D8, F] ?_
    refine WP 0 ?_
    refine WP 1 ?_
    refine VL 2 (.agg (V.blks.map numC).toArray) rfl rfl rfl rfl (.inr ⟨rfl, V.blks.map numC, rfl, hcn, Ent.whole MM⟩) ?_
    refine VL 3 (.agg (V.blks.map datC).toArray) rfl rfl rfl rfl (.inr ⟨rfl, V.blks.map datC, rfl, hcd, Ent.whole MM⟩) ?_
    refine WP 4 ?_
    refine WP 5 ?_
    refine WH.only 6 rfl rfl (by kernel_rfl) rfl (OP.store (vs := V.blks.map numC) (M := [blk x5 (V.blks.map numC) 81, blk x6 (V.blks.map datC) 82, blk v (rvolD p j V.J.ring V.blks V.laid) 84, rjrn j p V.J, rdsk p D8, F]) rfl rfl rfl rfl rfl (h1n _) hcn (UpdM.there (UpdM.there (UpdM.here (by rw [Nat.zero_add]; exact hsN)))) rfl ⟨fun _ => II, ?_⟩)
    refine WP 7 ?_
    refine WP 8 ?_
    refine WH.only 9 rfl rfl (by kernel_rfl) rfl (OP.store (vs := V.blks.map datC) (M := [blk x5 (V.blks.map numC) 81, blk x6 (V.blks.map datC) 82, blk v (rvolD p j V.J.ring V.blks V.blks) 84, rjrn j p V.J, rdsk p D8, F]) rfl rfl rfl rfl rfl (h1d _) hcd (UpdM.there (UpdM.there (UpdM.here (by rw [Nat.zero_add]; exact hsD)))) rfl ⟨fun _ => II, ?_⟩)
    refine DN ?_
    repeat (first | refine GD ?_ | refine NW fun _ => ?_)
    refine WL.step rfl (OP.call (pre := [rdsk p D8]) rfl rfl (rdflush_ok p D8 hko (by omega)) PS rfl rfl ?_)
    rintro _ _ ⟨rfl, rfl⟩
    repeat (first | refine GD ?_ | refine NW fun _ => ?_)
    refine WC.open (M := [blk v (rvolD p j V.J.ring V.blks V.blks) 84, rdsk p D8.flush, F]) (Ls := rjrnL j p V.J) II (fun x => ?_)
    unfold rjrnL
    dsimp only [List.cons_append, List.nil_append]
    refine WC.loop (σ := Nat) (fun k => k ≤ V.J.held.length ∧ ∀ i (hi : i < V.J.held.length), i < k → (V.J.held[i]).2.1 ≤ upto)
      (fun k => [(0, .val (.pointer (some ⟨v, 0, none⟩))), (1, .val (.int .i64 upto)), (10, .val (.int .i64 k))])
      (fun _ => [blk j [.pointer (some ⟨p, 0, none⟩), .int .i64 V.J.ring, .int .i64 V.J.hd.turn, .int .i64 V.J.hd.first, .int .i64 V.J.hd.gen, .int .i64 V.J.hd.low, .slice x.1 V.J.held.length x.2.1, .slice x.2.2.1 V.J.held.length x.2.2.2] 59, ownS x.1 V.J.held.length x.2.1 42 5 (V.J.held.flatMap (fun x => encR x.2)), ownS x.2.2.1 V.J.held.length x.2.2.2 3 1 (V.J.held.map genC),
        blk v (rvolD p j V.J.ring V.blks V.blks) 84, rdsk p D8.flush, F]) (fun k => V.J.held.length - k) 0 ⟨Nat.zero_le _, fun i hi h => absurd h (Nat.not_lt_zero i)⟩ ⟨rfl, rfl, rfl, trivial⟩ (Imp.refl _) ?_
    rintro k ⟨hk1, hall⟩
    by_cases hkl2 : k < V.J.held.length
    rotate_left
    · have hn2 : ∀ (hi : k < V.J.held.length), upto < (V.J.held[k]).2.1 := fun hi => absurd hi hkl2
      repeat (first | refine GD ?_ | refine NW fun _ => ?_)
      have hup := uptoV_first hseq hk1 hall hn2
      rw [hup] at htr
      have htj := rtrim_ok j p V.J D8.flush k hV.J hf8 (by omega) (by omega)
      unfold RTrimJ at htj
      rw [htr] at htj
      refine WL.imp (M := [rjrn j p V.J, blk v (rvolD p j V.J.ring V.blks V.blks) 84, rdsk p D8.flush, F]) (rjrnFold j p V.J x) ?_
      refine WL.step rfl (OP.call (pre := [rjrn j p V.J, rdsk p D8.flush]) rfl rfl htj PS rfl rfl ?_)
      rintro _ _ ⟨rfl, rfl⟩
      repeat (first | refine GD ?_ | refine NW fun _ => ?_)
      refine ret1 rfl ⟨[rvol v p ⟨J', V.blks, V.blks⟩, rdsk p D'], ⟨rfl, rfl⟩, ?_⟩
      refine Imp.trans ?_ (rvolFold v p ⟨J', V.blks, V.blks⟩ j)
      dsimp only
      rw [hrg]
      exact II
    refine WC.fact (Ent.some (Ent.own (a := x.1) (n := V.J.held.length) (cap := x.2.1) (T := 42) (size := 5) (cs := V.J.held.flatMap (fun x => encR x.2)) MM) (by omega)) ?_
    rintro ⟨b, off, hx⟩
    rw [hx]
    have hcl : ∀ {L}, ownS (some ⟨b, off, none⟩) V.J.held.length x.2.1 42 5 (V.J.held.flatMap (fun x => encR x.2)) ∈ L → Ent L (cellAt b (off + k * 5 + 0) (.int .i64 (V.J.held[k]).2.1)) := fun m => Ent.elF (f := fun x : Held => encR x.2) (fun _ => rfl) (j := 0) (Ent.own (T := 42) m) hkl2 rfl rfl
    repeat (first | refine GD ?_ | refine NW fun _ => ?_)
    refine WL.guardT rfl rfl rfl rfl (OP.load1 (v := .int .i64 (V.J.held[k]).2.1) rfl rfl rfl rfl (hcl MM) rfl rfl ?_)
    by_cases hc : (V.J.held[k]).2.1 ≤ upto
    rotate_left
    · have hn2 : ∀ (hi : k < V.J.held.length), upto < (V.J.held[k]).2.1 := fun hi => by omega
      repeat (first | refine GD ?_ | refine NW fun _ => ?_)
      rw [← hx]
      repeat (first | refine GD ?_ | refine NW fun _ => ?_)
      have hup := uptoV_first hseq hk1 hall hn2
      rw [hup] at htr
      have htj := rtrim_ok j p V.J D8.flush k hV.J hf8 (by omega) (by omega)
      unfold RTrimJ at htj
      rw [htr] at htj
      refine WL.imp (M := [rjrn j p V.J, blk v (rvolD p j V.J.ring V.blks V.blks) 84, rdsk p D8.flush, F]) (rjrnFold j p V.J x) ?_
      refine WL.step rfl (OP.call (pre := [rjrn j p V.J, rdsk p D8.flush]) rfl rfl htj PS rfl rfl ?_)
      rintro _ _ ⟨rfl, rfl⟩
      repeat (first | refine GD ?_ | refine NW fun _ => ?_)
      refine ret1 rfl ⟨[rvol v p ⟨J', V.blks, V.blks⟩, rdsk p D'], ⟨rfl, rfl⟩, ?_⟩
      refine Imp.trans ?_ (rvolFold v p ⟨J', V.blks, V.blks⟩ j)
      dsimp only
      rw [hrg]
      exact II
    repeat (first | refine GD ?_ | refine NW fun _ => ?_)
    exact ⟨k + 1, ⟨by omega, fun i hi hik => by
      by_cases e : i = k
      · subst e; exact hc
      · exact hall i hi (by omega)⟩, by omega, ⟨rfl, rfl, rfl, trivial⟩, II⟩
  have hlb : k < V.blks.length := by rw [hV.b8]; exact hlt
  have hll : k < V.laid.length := by rw [hV.l8]; exact hlt
  have hst : layF V.J.ring V.laid V.blks (k + 1) D.flush = if (V.laid[k]).1 < (V.blks[k]).1 then (layF V.J.ring V.laid V.blks k D.flush).put (2 + V.J.ring + k) (plcS V.blks[k] k) else layF V.J.ring V.laid V.blks k D.flush := by
    rw [layF, List.getD_eq_getElem?_getD, List.getD_eq_getElem?_getD, List.getElem?_eq_getElem hlb, List.getElem?_eq_getElem hll, Option.getD_some, Option.getD_some]
  have hn := rvolC_num (p := p) (j := j) (ring := V.J.ring) hll
  have hsz := hV.s _ (List.getElem_mem hlb)
  have hLs : (V.blks.take k ++ List.replicate (8 - k) plc0).set k V.blks[k] = V.blks.take (k + 1) ++ List.replicate (8 - (k + 1)) plc0 := by
    have e : (V.blks.take k).length = k := by rw [List.length_take]; omega
    rw [show 8 - k = (8 - (k + 1)) + 1 by omega, List.replicate_succ, List.set_append_right _ _ (by omega), e, Nat.sub_self, ← List.take_append_getElem hlb, List.append_assoc]
    rfl
  have hLl := hLk k hk
  have hm1 := map_set1 numC V.blks[k] (show k < (V.blks.take k ++ List.replicate (8 - k) plc0).length by omega)
  have hm2 := map_set1 datC V.blks[k] (show k < (V.blks.take k ++ List.replicate (8 - k) plc0).length by omega)
  rw [hLs] at hm1 hm2
  have hla := rlast_ro v p V k hlt hV.l8 hJlen hr
  rw [← hB, getD_lt hlb] at hla
  repeat (first | refine GD ?_ | refine NW fun _ => ?_)
  refine WL.step rfl (OP.callRO rfl rfl hla (hEv II) rfl rfl ?_)
  repeat refine GS ?_
  refine WL.step rfl (OP.store (vs := [numC V.blks[k]]) (M := [blk x5 ((V.blks.take (k + 1) ++ List.replicate (8 - (k + 1)) plc0).map numC) 81, blk x6 ((V.blks.take k ++ List.replicate (8 - k) plc0).map datC) 82, blk v (rvolC p j V.J.ring V.laid) 84, rjrn j p V.J, rdsk p (layF V.J.ring V.laid V.blks k D.flush), F]) rfl rfl rfl rfl rfl rfl rfl (UpdM.here (by rw [Nat.zero_add]; exact hm1)) rfl ?_)
  repeat refine GS ?_
  refine WL.step rfl (OP.store (vs := [datC V.blks[k]]) (M := [blk x5 ((V.blks.take (k + 1) ++ List.replicate (8 - (k + 1)) plc0).map numC) 81, blk x6 ((V.blks.take (k + 1) ++ List.replicate (8 - (k + 1)) plc0).map datC) 82, blk v (rvolC p j V.J.ring V.laid) 84, rjrn j p V.J, rdsk p (layF V.J.ring V.laid V.blks k D.flush), F]) rfl rfl rfl rfl rfl rfl rfl (UpdM.there (UpdM.here (by rw [Nat.zero_add]; exact hm2))) rfl ?_)
  repeat (first | refine GD ?_ | refine NW fun _ => ?_)
  refine WL.step rfl (OP.load1 (v := .int .i64 (V.laid[k]).1) rfl rfl rfl rfl (Ent.blk (T := 84) (c := rvolC p j V.J.ring V.laid) MM (by rw [Nat.zero_add]; exact hn)) rfl rfl ?_)
  by_cases hc : (V.laid[k]).1 < (V.blks[k]).1
  rotate_left
  · rw [if_neg hc] at hst
    repeat (first | refine GD ?_ | refine NW fun _ => ?_)
    exact ⟨k + 1, by omega, by omega, ⟨rfl, rfl, rfl, rfl, rfl, trivial⟩, by rw [hst]; exact II⟩
  rw [if_pos hc] at hst
  generalize layF V.J.ring V.laid V.blks k D.flush = Dk at *
  have hwr := rdwrite_ok p Dk (2 + V.J.ring + k : Nat) (plcS V.blks[k] k) (by omega)
  have hwd : ((2 + V.J.ring + k : Nat) : Int) = 2 + (V.J.ring : Int) + k := by omega
  rw [hwd] at hwr
  have hps := rplace_ro V.blks[k] k hsz
  have hS64 := plcS_len (block := k) hsz
  generalize plcS V.blks[k] k = S at *
  have hrg5 : V.J.ring ≤ 512 := by have := hV.J.1; omega
  repeat (first | refine GD ?_ | refine NW fun _ => ?_)
  refine RD 15 16 (_) ?_
  refine WP 0 ?_
  refine WP 1 ?_
  refine WP 2 ?_
  refine VV 3 ?_
  refine WP 4 ?_
  refine WP 5 ?_
  refine WP 6 ?_
  refine VV 7 ?_
  refine WP 8 ?_
  refine WP 9 ?_
  refine WP 10 ?_
  refine WP 11 ?_
  refine WP 12 ?_
  refine WP 13 ?_
  refine WH.only 14 rfl rfl (by kernel_rfl) rfl (OP.callRO rfl rfl (hps) (fun _ _ => trivial) rfl rfl ⟨fun _ => II, ?_⟩)
  refine WH.only 15 rfl rfl (by kernel_rfl) rfl (OP.call (pre := [rdsk p Dk]) rfl rfl hwr PS rfl rfl (fun x M hM => ?_))
  unfold RWrPost at hM
  rw [if_pos ⟨by omega, hS64⟩, ← hwd, Int.toNat_natCast] at hM
  obtain ⟨rfl, rfl⟩ := hM
  refine ⟨(fun h => nomatch h), ?_⟩
  refine DN ?_
  repeat (first | refine GD ?_ | refine NW fun _ => ?_)
  exact ⟨k + 1, by omega, by omega, ⟨rfl, rfl, rfl, rfl, rfl, trivial⟩, by rw [hst]; exact II⟩
end Go.Proofs.YteednjcoapmkaaaGreatDoor
/- Contracts of functions of the given program, and plain laws on what they compute: parts of the proofs of laws. -/

namespace Go.Proofs.YteednjcoapmkaaaGreatDoor
open Go Go.GL

set_option maxHeartbeats 4000000 in
set_option maxRecDepth 10000 in
theorem vawake_ro : RO G 31 [] (fun _ => True) (.bool true) := by
  refine RO.enter Tryz.func31 rfl (by decide) rfl Tryz.ntmps31 rfl (fun A hu hA => ?_) (fun _ _ _ h => h)
  have hw : widest = 1152921504606846975 := rfl
  obtain ⟨ho, I⟩ := VInv.fresh (n := 14) (ring := 4) (by decide) (by decide) (by decide) (by decide)
  repeat (first | refine GO ?_ | refine NW fun _ => ?_)
  refine WL.step rfl (OP.callRO rfl rfl (vsectors_ro 4 (by decide)) (fun _ _ => trivial) rfl rfl ?_)
  refine WL.step rfl (OP.callRT rfl rfl (dnew_rt 14) (fun _ _ => trivial) rfl rfl ?_)
  rintro _ _ ⟨p, rfl, rfl⟩
  refine WL.step rfl (OP.call (pre := [dsk p (Dsk.new 14)]) rfl rfl (vopen_ok p (Dsk.new 14) 4 (Dsk.new_ok 14) (by decide) (by decide)) PS rfl rfl ?_)
  intro x M hO
  unfold OpenVP at hO
  have ho' : openV (Dsk.new 14) 4 = _ := ho
  rw [ho'] at hO
  obtain ⟨v, rfl, rfl⟩ := hO
  generalize saveM (Dsk.new ((14 : Nat) : Int)) ⟨1, 1, 1, 0⟩ = D at *
  repeat (first | refine GO ?_ | refine NW fun _ => ?_)
  refine WL.guardT rfl rfl rfl rfl (OP.callRO rfl rfl (vsectors_ro 4 (by decide)) (fun _ _ => trivial) rfl rfl ?_)
  repeat (first | refine GO ?_ | refine NW fun _ => ?_)
  generalize hV : (⟨⟨4, ⟨1, 1, 1, 0⟩, []⟩, List.replicate 8 plc0, List.replicate 8 plc0⟩ : Vol) = V at *
  have hJ : V.J = ⟨4, ⟨1, 1, 1, 0⟩, []⟩ := by rw [← hV]
  have hap : writeV V D 3 ⟨#[97]⟩ = .ok (⟨⟨4, ⟨1, 1, 1, 0⟩, [(1, 1, 1, 3, ⟨#[97]⟩, 0)]⟩, List.replicate 8 plc0, takeV (List.replicate 8 plc0) (1, 1, 3, ⟨#[97]⟩, 0)⟩, D.put (posM 4 1) (sectorM (bodyM 1 (1, 1, 3, ⟨#[97]⟩, 0)))) := by
    rw [← hV]
    unfold writeV
    rw [if_neg (by decide), if_neg (by decide)]
    unfold appV appendM
    rw [if_neg (by decide), if_pos (by decide)]
    rfl
  have hap2 := hap
  unfold writeV at hap2
  rw [if_neg (by decide), if_neg (by decide)] at hap2
  have I2 := (I.append hap2).1
  have hwr := vwrite_ok v p V D 3 ⟨#[97]⟩ (I.rng (by omega)) (by rw [hJ]; have := I.len; rw [hJ] at this; exact this) I.j.few (by decide)
  refine WL.step rfl (OP.call (pre := [vol v p V, dsk p D]) rfl rfl hwr PS rfl rfl ?_)
  intro x M hA'
  unfold AppVP at hA'
  rw [hap] at hA'
  obtain ⟨rfl, rfl⟩ := hA'
  have hnx : V.J.next = 1 := by rw [hJ]; rfl
  rw [hnx]
  generalize D.put (posM 4 1) (sectorM (bodyM 1 (1, 1, 3, ⟨#[97]⟩, 0))) = D' at *
  have hr2 := I2.rng (by omega)
  have hrd := vread_rt v p ⟨⟨4, ⟨1, 1, 1, 0⟩, [(1, 1, 1, 3, ⟨#[97]⟩, 0)]⟩, List.replicate 8 plc0, takeV (List.replicate 8 plc0) (1, 1, 3, ⟨#[97]⟩, 0)⟩ 3 hr2
  repeat (first | refine GD ?_ | refine NW fun _ => ?_)
  refine WL.step rfl (OP.callRT rfl rfl hrd (Ent.at (up_vol _ _ _) MM) rfl rfl ?_)
  intro x M hM
  unfold VReadPost at hM
  rw [show readV ⟨⟨4, ⟨1, 1, 1, 0⟩, [(1, 1, 1, 3, ⟨#[97]⟩, 0)]⟩, List.replicate 8 plc0, takeV (List.replicate 8 plc0) (1, 1, 3, ⟨#[97]⟩, 0)⟩ 3 = .ok ⟨#[97]⟩ from rfl] at hM
  obtain ⟨rfl, rfl⟩ := hM
  repeat (first | refine GD ?_ | refine NW fun _ => ?_)
  exact ret1 rfl ⟨rfl, MM⟩
end Go.Proofs.YteednjcoapmkaaaGreatDoor
/- Contracts of functions of the given program, and plain laws on what they compute: parts of the proofs of laws. -/
namespace Go.Proofs.YteednjcoapmkaaaGreatDoor
open Go Go.GL
theorem rec_of {x : List Value} (h : LfsOk [.int .i64, .int .i64, .int .i64, .str, .int .i64] x) : ∃ r : Rec, x = encR r ∧ (r.2.2.2.1.size ≤ maxLen ∧ (Lit.int .i64 r.1).wf = true ∧ (Lit.int .i64 r.2.1).wf = true ∧ (Lit.int .i64 r.2.2.1).wf = true ∧ (Lit.int .i64 r.2.2.2.2).wf = true) := by
  obtain ⟨n0, s, rfl, w0, h⟩ := h.int
  obtain ⟨n1, s, rfl, w1, h⟩ := h.int
  obtain ⟨n2, s, rfl, w2, h⟩ := h.int
  obtain ⟨n3, s, rfl, w3, h⟩ := h.str
  obtain ⟨n4, s, rfl, w4, h⟩ := h.int
  rw [h.nil]
  exact ⟨(n0, n1, n2, n3, n4), rfl, w3, w0, w1, w2, w4⟩
end Go.Proofs.YteednjcoapmkaaaGreatDoor
/- Contracts of functions of the given program, and plain laws on what they compute: parts of the proofs of laws. -/

namespace Go.Proofs.YteednjcoapmkaaaGreatDoor
open Go Go.GL

/-- a call: its kind, its number, its text, what is kept -/
abbrev VOp := Int × Int × ByteArray × Int
def encO (o : VOp) : List Value := [.int .i64 o.1, .int .i64 o.2.1, .string o.2.2.1, .int .u64 o.2.2.2]
theorem encO_len (o : VOp) : (encO o).length = 4 := rfl
theorem vop_of {x : List Value} (h : LfsOk [.int .i64, .int .i64, .str, .int .u64] x) : ∃ o : VOp, x = encO o ∧ (Lit.int .i64 o.1).wf = true ∧ (Lit.int .i64 o.2.1).wf = true ∧ (Lit.int .u64 o.2.2.2).wf = true := by
  obtain ⟨k, s, rfl, w0, h⟩ := h.int
  obtain ⟨n, s, rfl, w1, h⟩ := h.int
  obtain ⟨n3, s, rfl, _, h⟩ := h.str
  obtain ⟨n5, s, rfl, w5, h⟩ := h.int
  rw [h.nil]
  exact ⟨(k, n, n3, n5), rfl, w0, w1, w5⟩
def fewV (l : List VOp) : Bool := decide (l.length ≤ 80) && l.all (fun o => decide (o.2.2.1.size ≤ 100))
set_option maxHeartbeats 1000000 in
set_option maxRecDepth 10000 in
theorem vfew_ro (a : Option Addr) (n c : Nat) (l : List VOp) (hn : n = l.length) : RO G 42 [.slice a n c] (readS a n 4 (l.flatMap encO)) (.bool (fewV l)) := by
  refine RO.enter Tryz.func42 rfl (by decide) rfl Tryz.ntmps42 rfl (fun A hu hA => ?_) (up_readS _ _ _ _)
  have hE : ∀ {L}, A ∈ L → Ent L (readS a n 4 (l.flatMap encO)) := fun m => Ent.mem m hu hA
  by_cases h80 : 80 < n
  · have hf : fewV l = false := by unfold fewV; rw [decide_eq_false (by omega)]; rfl
    rw [hf]
    repeat (first | refine GD ?_ | refine NW fun _ => ?_)
    exact ret1 rfl ⟨rfl, MM⟩
  have hfd : fewV l = l.all (fun o => decide (o.2.2.1.size ≤ 100)) := by unfold fewV; rw [decide_eq_true (by omega)]; rfl
  rw [hfd]
  repeat (first | refine GD ?_ | refine NW fun _ => ?_)
  refine WC.loop (σ := Nat) (fun k => k ≤ n ∧ ∀ o ∈ l.take k, o.2.2.1.size ≤ 100)
    (fun k => [(0, .val (.slice a n c)), (8, .val (.int .i64 n)), (9, .val (.int .i64 k))])
    (fun k => [A]) (fun k => n - k) 0 ⟨Nat.zero_le _, by simp⟩ ⟨rfl, rfl, rfl, trivial⟩ (Imp.refl _) ?_
  rintro k ⟨hk, hall⟩
  by_cases hlt : k < n
  rotate_left
  · have hk2 : k = l.length := by omega
    rw [hk2, List.take_length] at hall
    have ht : l.all (fun o => decide (o.2.2.1.size ≤ 100)) = true := List.all_eq_true.2 (fun o ho => decide_eq_true (hall o ho))
    rw [ht]
    repeat (first | refine GD ?_ | refine NW fun _ => ?_)
    exact ret1 rfl ⟨rfl, MM⟩
  have hlk : k < l.length := by omega
  have hmem : l[k] ∈ l := List.getElem_mem hlk
  have hsnoc : l.take (k + 1) = l.take k ++ [l[k]] := (List.take_append_getElem hlk).symm
  refine WC.fact (Ent.some (hE MM) (by omega)) ?_
  rintro ⟨b, off, rfl⟩
  repeat (first | refine GD ?_ | refine NW fun _ => ?_)
  refine WL.step rfl (OP.load1 (v := .string l[k].2.2.1) rfl rfl rfl rfl (Ent.elF encO_len (j := 2) (hE MM) hlk rfl rfl) rfl rfl ?_)
  generalize l[k] = o at *
  by_cases h300 : 100 < (o.2.2.1.size : Int)
  · have ht : l.all (fun o => decide (o.2.2.1.size ≤ 100)) = false := by
      cases hq : l.all (fun o => decide (o.2.2.1.size ≤ 100))
      · rfl
      · have := of_decide_eq_true (List.all_eq_true.1 hq o hmem)
        omega
    rw [ht]
    repeat (first | refine GD ?_ | refine NW fun _ => ?_)
    exact ret1 rfl ⟨rfl, MM⟩
  · repeat (first | refine GD ?_ | refine NW fun _ => ?_)
    refine ⟨k + 1, ⟨by omega, ?_⟩, by omega, ⟨rfl, rfl, rfl, trivial⟩, Imp.refl _⟩
    intro o' ho'
    rw [hsnoc] at ho'
    rcases List.mem_append.1 ho' with h | h
    · exact hall o' h
    · rw [List.mem_singleton.1 h]; omega
end Go.Proofs.YteednjcoapmkaaaGreatDoor
/- Contracts of functions of the given program, and plain laws on what they compute: parts of the proofs of laws. -/

namespace Go.Proofs.YteednjcoapmkaaaGreatDoor
open Go Go.GL Go.Extern

/-- a type's handle -/
def hd (t : Nat) : Value := .pointer (some ⟨1, t, none⟩)
def rt (t : Nat) : Value := .iface 191 (.agg #[hd t])
def errT : Value := rt 31
theorem xValueOf : IsExt Tryz.prog 90 (fun args => ReflectliteValue.unpack (args.getD 0 (.tuple #[]))) := fun args w => run_callFunc_extern (e := (fun args => ReflectliteValue.unpack (args.getD 0 (.tuple #[])))) Tryz.func90 (by kernel_rfl) (by kernel_rfl) (by kernel_rfl) (by kernel_rfl) args w
theorem xType : IsExt Tryz.prog 91 (ReflectliteValue.methodAny (ReflectliteValue.valueError "reflectlite.Value.Type" 0) (fun t _ _ _ => ReflectliteType.toType t)) := fun args w => run_callFunc_extern (e := (ReflectliteValue.methodAny (ReflectliteValue.valueError "reflectlite.Value.Type" 0) (fun t _ _ _ => ReflectliteType.toType t))) Tryz.func91 (by kernel_rfl) (by kernel_rfl) (by kernel_rfl) (by kernel_rfl) args w
theorem xIsNil : IsExt Tryz.prog 92 (ReflectliteValue.method (ReflectliteValue.valueError "reflectlite.Value.IsNil" 0) ReflectliteValue.isNil) := fun args w => run_callFunc_extern (e := (ReflectliteValue.method (ReflectliteValue.valueError "reflectlite.Value.IsNil" 0) ReflectliteValue.isNil)) Tryz.func92 (by kernel_rfl) (by kernel_rfl) (by kernel_rfl) (by kernel_rfl) args w
theorem xKind : IsExt Tryz.prog 139 (ReflectliteType.abiMethod fun t => do pure (.int .u8 (← Rtype.kind t))) := fun args w => run_callFunc_extern (e := (ReflectliteType.abiMethod fun t => do pure (.int .u8 (← Rtype.kind t)))) Tryz.func139 (by kernel_rfl) (by kernel_rfl) (by kernel_rfl) (by kernel_rfl) args w
theorem xElem : IsExt Tryz.prog 153 (ReflectliteType.method ReflectliteType.elem) := fun args w => run_callFunc_extern (e := (ReflectliteType.method ReflectliteType.elem)) Tryz.func153 (by kernel_rfl) (by kernel_rfl) (by kernel_rfl) (by kernel_rfl) args w
theorem xImplements : IsExt Tryz.prog 154 (ReflectliteType.relation "Implements" ReflectliteType.implements_) := fun args w => run_callFunc_extern (e := (ReflectliteType.relation "Implements" ReflectliteType.implements_)) Tryz.func154 (by kernel_rfl) (by kernel_rfl) (by kernel_rfl) (by kernel_rfl) args w
theorem xTypeOf : IsExt Tryz.prog 112 ReflectliteType.typeOf := fun args w => run_callFunc_extern (e := ReflectliteType.typeOf) Tryz.func112 (by kernel_rfl) (by kernel_rfl) (by kernel_rfl) (by kernel_rfl) args w
theorem xAssignableTo : IsExt Tryz.prog 151 (ReflectliteType.relation "AssignableTo" ReflectliteType.assignableTo) := fun args w => run_callFunc_extern (e := (ReflectliteType.relation "AssignableTo" ReflectliteType.assignableTo)) Tryz.func151 (by kernel_rfl) (by kernel_rfl) (by kernel_rfl) (by kernel_rfl) args w
theorem xElemV : IsExt Tryz.prog 113 (ReflectliteValue.method (ReflectliteValue.valueError "reflectlite.Value.Elem" 0) ReflectliteValue.elem) := fun args w => run_callFunc_extern (e := (ReflectliteValue.method (ReflectliteValue.valueError "reflectlite.Value.Elem" 0) ReflectliteValue.elem)) Tryz.func113 (by kernel_rfl) (by kernel_rfl) (by kernel_rfl) (by kernel_rfl) args w
theorem xSet : IsExt Tryz.prog 114 ReflectliteValue.set := fun args w => run_callFunc_extern (e := ReflectliteValue.set) Tryz.func114 (by kernel_rfl) (by kernel_rfl) (by kernel_rfl) (by kernel_rfl) args w
theorem mKind (h : Value) (w : World) : (Go.method (Tryz.prog.types.size + Made.depth) 191 (.agg #[h]) "Kind").run Tryz.prog w = .ok (139, h) w := by kernel_rfl
theorem mElem (h : Value) (w : World) : (Go.method (Tryz.prog.types.size + Made.depth) 191 (.agg #[h]) "Elem").run Tryz.prog w = .ok (153, .agg #[h]) w := by kernel_rfl
theorem mImplements (h : Value) (w : World) : (Go.method (Tryz.prog.types.size + Made.depth) 191 (.agg #[h]) "Implements").run Tryz.prog w = .ok (154, .agg #[h]) w := by kernel_rfl
theorem mAssignableTo (h : Value) (w : World) : (Go.method (Tryz.prog.types.size + Made.depth) 191 (.agg #[h]) "AssignableTo").run Tryz.prog w = .ok (151, .agg #[h]) w := by kernel_rfl
theorem mUnwrap (v : Value) (w : World) : (Go.method (Tryz.prog.types.size + Made.depth) 113 v "Unwrap").run Tryz.prog w = .ok (144, v) w := by kernel_rfl
theorem valueOfNP (t : Addr) (w : World) : (ReflectliteValue.unpack (.iface 117 (.pointer (some t)))).run Tryz.prog w = .ok (.agg #[hd 117, .pointer (some ⟨w.heap.size, 0, none⟩), .int .u64 150]) (w.alloc (.cells #[.pointer (some t)] 117)) := by kernel_rfl
theorem typeNP (a : Addr) (w : World) : ((ReflectliteValue.methodAny (ReflectliteValue.valueError "reflectlite.Value.Type" 0) (fun t _ _ _ => ReflectliteType.toType t)) #[.agg #[hd 117, .pointer (some a), .int .u64 150]]).run Tryz.prog w = .ok (rt 117) w := by kernel_rfl
theorem partsNP (a : Addr) (w : World) : (ReflectliteValue.parts (.agg #[hd 117, .pointer (some a), .int .u64 150])).run Tryz.prog w = .ok (some (117, a, 150)) w := by kernel_rfl
theorem valueOfFF (t : Addr) (w : World) : (ReflectliteValue.unpack (.iface 163 (.pointer (some t)))).run Tryz.prog w = .ok (.agg #[hd 163, .pointer (some ⟨w.heap.size, 0, none⟩), .int .u64 150]) (w.alloc (.cells #[.pointer (some t)] 163)) := by kernel_rfl
theorem typeFF (a : Addr) (w : World) : ((ReflectliteValue.methodAny (ReflectliteValue.valueError "reflectlite.Value.Type" 0) (fun t _ _ _ => ReflectliteType.toType t)) #[.agg #[hd 163, .pointer (some a), .int .u64 150]]).run Tryz.prog w = .ok (rt 163) w := by kernel_rfl
theorem partsFF (a : Addr) (w : World) : (ReflectliteValue.parts (.agg #[hd 163, .pointer (some a), .int .u64 150])).run Tryz.prog w = .ok (some (163, a, 150)) w := by kernel_rfl
theorem rlm (z : Sem Value) (f : TypeId → Addr → Nat → Nat → Sem Value) (v : Value) : ReflectliteValue.method z f #[v] = (do match ← ReflectliteValue.parts v with | none => z | some (t, a, fl) => f t a fl (fl % 32)) := rfl
theorem isNilNP (a p : Addr) (W : World) (ha : W.cell? a = some (.pointer (some p))) : ((ReflectliteValue.method (ReflectliteValue.valueError "reflectlite.Value.IsNil" 0) ReflectliteValue.isNil) #[.agg #[hd 117, .pointer (some a), .int .u64 150]]).run Tryz.prog W = .ok (.bool false) W := by
  rw [rlm]
  simp only [Sem.run_bind, partsNP, Result.andThen]
  simp [ReflectliteValue.isNil, loadVar, isAgg, underlying, Tryz.underlying117, ha, Result.andThen]
theorem isNilFF (a p : Addr) (W : World) (ha : W.cell? a = some (.pointer (some p))) : ((ReflectliteValue.method (ReflectliteValue.valueError "reflectlite.Value.IsNil" 0) ReflectliteValue.isNil) #[.agg #[hd 163, .pointer (some a), .int .u64 150]]).run Tryz.prog W = .ok (.bool false) W := by
  rw [rlm]
  simp only [Sem.run_bind, partsFF, Result.andThen]
  simp [ReflectliteValue.isNil, loadVar, isAgg, underlying, Tryz.underlying163, ha, Result.andThen]
theorem kindNP (w : World) : ((ReflectliteType.abiMethod fun t => do pure (.int .u8 (← Rtype.kind t))) #[hd 117]).run Tryz.prog w = .ok (.int .u8 22) w := by kernel_rfl
theorem kindFF (w : World) : ((ReflectliteType.abiMethod fun t => do pure (.int .u8 (← Rtype.kind t))) #[hd 163]).run Tryz.prog w = .ok (.int .u8 22) w := by kernel_rfl
theorem kindN (w : World) : ((ReflectliteType.abiMethod fun t => do pure (.int .u8 (← Rtype.kind t))) #[hd 39]).run Tryz.prog w = .ok (.int .u8 2) w := by kernel_rfl
theorem kindF (w : World) : ((ReflectliteType.abiMethod fun t => do pure (.int .u8 (← Rtype.kind t))) #[hd 113]).run Tryz.prog w = .ok (.int .u8 22) w := by kernel_rfl
theorem elemNP (w : World) : ((ReflectliteType.method ReflectliteType.elem) #[.agg #[hd 117]]).run Tryz.prog w = .ok (rt 39) w := by kernel_rfl
theorem elemOfNP (w : World) : (Rtype.elem? 117).run Tryz.prog w = .ok (some 39) w := by kernel_rfl
theorem elemFF (w : World) : ((ReflectliteType.method ReflectliteType.elem) #[.agg #[hd 163]]).run Tryz.prog w = .ok (rt 113) w := by kernel_rfl
theorem elemOfFF (w : World) : (Rtype.elem? 163).run Tryz.prog w = .ok (some 113) w := by kernel_rfl
theorem implementsN (w : World) : ((ReflectliteType.relation "Implements" ReflectliteType.implements_) #[.agg #[hd 39], errT]).run Tryz.prog w = .ok (.bool true) w := by kernel_rfl
theorem typeOfN (v : Value) (w : World) : (ReflectliteType.typeOf #[.iface 39 v]).run Tryz.prog w = .ok (rt 39) w := by kernel_rfl
theorem mkN (p : Addr) (w : World) : (ReflectliteValue.mk 39 p ReflectliteValue.flagAddr).run Tryz.prog w = .ok (.agg #[hd 39, .pointer (some p), .int .u64 386]) w := by kernel_rfl
theorem partsAN (a : Addr) (w : World) : (ReflectliteValue.parts (.agg #[hd 39, .pointer (some a), .int .u64 386])).run Tryz.prog w = .ok (some (39, a, 386)) w := by kernel_rfl
theorem partsBN (a : Addr) (w : World) : (ReflectliteValue.parts (.agg #[hd 39, .pointer (some a), .int .u64 130])).run Tryz.prog w = .ok (some (39, a, 130)) w := by kernel_rfl
theorem directN (w : World) : (Rtype.directlyAssignable 39 39).run Tryz.prog w = .ok true w := by kernel_rfl
theorem implementsF (w : World) : ((ReflectliteType.relation "Implements" ReflectliteType.implements_) #[.agg #[hd 113], errT]).run Tryz.prog w = .ok (.bool true) w := by kernel_rfl
theorem typeOfF (v : Value) (w : World) : (ReflectliteType.typeOf #[.iface 113 v]).run Tryz.prog w = .ok (rt 113) w := by kernel_rfl
theorem mkF (p : Addr) (w : World) : (ReflectliteValue.mk 113 p ReflectliteValue.flagAddr).run Tryz.prog w = .ok (.agg #[hd 113, .pointer (some p), .int .u64 406]) w := by kernel_rfl
theorem partsAF (a : Addr) (w : World) : (ReflectliteValue.parts (.agg #[hd 113, .pointer (some a), .int .u64 406])).run Tryz.prog w = .ok (some (113, a, 406)) w := by kernel_rfl
theorem partsBF (a : Addr) (w : World) : (ReflectliteValue.parts (.agg #[hd 113, .pointer (some a), .int .u64 150])).run Tryz.prog w = .ok (some (113, a, 150)) w := by kernel_rfl
theorem directF (w : World) : (Rtype.directlyAssignable 113 113).run Tryz.prog w = .ok true w := by kernel_rfl
theorem assignFN (w : World) : ((ReflectliteType.relation "AssignableTo" ReflectliteType.assignableTo) #[.agg #[hd 113], rt 39]).run Tryz.prog w = .ok (.bool false) w := by kernel_rfl
theorem assignNN (w : World) : ((ReflectliteType.relation "AssignableTo" ReflectliteType.assignableTo) #[.agg #[hd 39], rt 39]).run Tryz.prog w = .ok (.bool true) w := by kernel_rfl
theorem assignFF (w : World) : ((ReflectliteType.relation "AssignableTo" ReflectliteType.assignableTo) #[.agg #[hd 113], rt 113]).run Tryz.prog w = .ok (.bool true) w := by kernel_rfl
theorem assignNF (w : World) : ((ReflectliteType.relation "AssignableTo" ReflectliteType.assignableTo) #[.agg #[hd 39], rt 113]).run Tryz.prog w = .ok (.bool false) w := by kernel_rfl
theorem valueOfF (e : Addr) (w : World) : (ReflectliteValue.unpack (.iface 113 (.pointer (some e)))).run Tryz.prog w = .ok (.agg #[hd 113, .pointer (some ⟨w.heap.size, 0, none⟩), .int .u64 150]) (w.alloc (.cells #[.pointer (some e)] 113)) := by kernel_rfl
theorem valueOfN (c : Int) (w : World) : (ReflectliteValue.unpack (.iface 39 (.int .i64 c))).run Tryz.prog w = .ok (.agg #[hd 39, .pointer (some ⟨w.heap.size, 0, none⟩), .int .u64 130]) (w.alloc (.cells #[.int .i64 c] 39)) := by kernel_rfl
theorem elemVNP (a p : Addr) (W : World) (ha : W.cell? a = some (.pointer (some p))) : ((ReflectliteValue.method (ReflectliteValue.valueError "reflectlite.Value.Elem" 0) ReflectliteValue.elem) #[.agg #[hd 117, .pointer (some a), .int .u64 150]]).run Tryz.prog W = .ok (.agg #[hd 39, .pointer (some p), .int .u64 386]) W := by
  rw [rlm]
  simp only [Sem.run_bind, partsNP, Result.andThen]
  simp [ReflectliteValue.elem, loadVar, isAgg, underlying, Tryz.underlying117, ha, Result.andThen, elemOfNP, mkN]
theorem elemVFF (a p : Addr) (W : World) (ha : W.cell? a = some (.pointer (some p))) : ((ReflectliteValue.method (ReflectliteValue.valueError "reflectlite.Value.Elem" 0) ReflectliteValue.elem) #[.agg #[hd 163, .pointer (some a), .int .u64 150]]).run Tryz.prog W = .ok (.agg #[hd 113, .pointer (some p), .int .u64 406]) W := by
  rw [rlm]
  simp only [Sem.run_bind, partsFF, Result.andThen]
  simp [ReflectliteValue.elem, loadVar, isAgg, underlying, Tryz.underlying163, ha, Result.andThen, elemOfFF, mkF]
theorem rls (v x : Value) : ReflectliteValue.set #[v, x] = (do
    let (some (dst, a, fl), some (src, b, _)) := (← ReflectliteValue.parts v, ← ReflectliteValue.parts x)
      | unsupported (.noEntry "extern/(internal/reflectlite.Value).Set.zeroValue")
    if fl / ReflectliteValue.flagAddr % 2 == 0 then unsupported (.noEntry "extern/(internal/reflectlite.Value).Set.unaddressable")
    let val ← loadVar src b
    if ← Rtype.directlyAssignable dst src then storeVar dst a val
    else if ← Rtype.implements dst src then
      if (← Rtype.kind src) == 20 then
        match val with
        | .nilIface => unsupported (.noEntry "extern/reflectlite: a nil value of one interface type handed on as a value of another")
        | _ => storeVar dst a val
      else storeVar dst a (.iface src val)
    else panicString ("reflectlite.Set: value of type " ++ (← Rtype.spelt src) ++ " is not assignable to type " ++ (← Rtype.spelt dst))
    pure (.tuple #[])) := rfl
theorem sizeN (w : World) : (sizeOf 39).run Tryz.prog w = .ok 1 w := by kernel_rfl
theorem setN (ta b : Addr) (c : Int) (old : Value) (W : World) (hb : W.cell? b = some (.int .i64 c)) (ht : W.cell? ta = some old) (hf : W.frozen? ta = false) :
    (ReflectliteValue.set #[.agg #[hd 39, .pointer (some ta), .int .u64 386], .agg #[hd 39, .pointer (some b), .int .u64 130]]).run Tryz.prog W = .ok (.tuple #[]) (W.setCell ta (.int .i64 c)) := by
  rw [rls]
  simp only [Sem.run_bind, partsAN, partsBN, Result.andThen]
  simp [ReflectliteValue.flagAddr, loadVar, isAgg, underlying, Tryz.underlying39, hb, Result.andThen, directN, storeVar, Value.cells, storeCells, Addr.add]
  rw [run_store Tryz.prog W ta _ _ (by rfl)]
  simp [ht, hf]
theorem sizeF (w : World) : (sizeOf 113).run Tryz.prog w = .ok 1 w := by kernel_rfl
theorem setF (ta b : Addr) (c : Option Addr) (old : Value) (W : World) (hb : W.cell? b = some (.pointer c)) (ht : W.cell? ta = some old) (hf : W.frozen? ta = false) :
    (ReflectliteValue.set #[.agg #[hd 113, .pointer (some ta), .int .u64 406], .agg #[hd 113, .pointer (some b), .int .u64 150]]).run Tryz.prog W = .ok (.tuple #[]) (W.setCell ta (.pointer c)) := by
  rw [rls]
  simp only [Sem.run_bind, partsAF, partsBF, Result.andThen]
  simp [ReflectliteValue.flagAddr, loadVar, isAgg, underlying, Tryz.underlying113, hb, Result.andThen, directF, storeVar, Value.cells, storeCells, Addr.add]
  rw [run_store Tryz.prog W ta _ _ (by rfl)]
  simp [ht, hf]
theorem assertFIA (v : Value) (w : World) : (Instr.typeAssert (.iface 113 v) 31 196 true).run Tryz.prog w = .ok (.tuple #[.nilIface, .bool false]) w := run_typeAssert_lacksB Tryz.underlying196 (by kernel_rfl) (by kernel_rfl) v 31 w
theorem assertFIU (v : Value) (w : World) : (Instr.typeAssert (.iface 113 v) 31 199 true).run Tryz.prog w = .ok (.tuple #[.iface 113 v, .bool true]) w := run_typeAssert_hasB Tryz.underlying199 (by kernel_rfl) v 31 w
theorem assertNIA (v : Value) (w : World) : (Instr.typeAssert (.iface 39 v) 31 196 true).run Tryz.prog w = .ok (.tuple #[.nilIface, .bool false]) w := run_typeAssert_lacksB Tryz.underlying196 (by kernel_rfl) (by kernel_rfl) v 31 w
theorem assertNIU (v : Value) (w : World) : (Instr.typeAssert (.iface 39 v) 31 199 true).run Tryz.prog w = .ok (.tuple #[.nilIface, .bool false]) w := run_typeAssert_lacksB Tryz.underlying199 (by kernel_rfl) (by kernel_rfl) v 31 w
theorem assertNIL (v : Value) (w : World) : (Instr.typeAssert (.iface 39 v) 31 201 true).run Tryz.prog w = .ok (.tuple #[.nilIface, .bool false]) w := run_typeAssert_lacksB Tryz.underlying201 (by kernel_rfl) (by kernel_rfl) v 31 w
end Go.Proofs.YteednjcoapmkaaaGreatDoor
