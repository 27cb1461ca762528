/- Contracts of functions of the given program, and plain laws: parts of the proofs of laws. -/
import Derived.Test.YtacgheafbkfciabGreatDoorZCN4
import Derived.Test.YtacgheafbkfciabGreatDoorZCN10
import Derived.Test.YtacgheafbkfciabGreatDoorZCN8
import Derived.Test.YtacgheafbkfciabGreatDoorZCN9
/- Contracts of functions of the given program, and plain laws on what they compute: parts of the proofs of laws. -/

namespace Go.Proofs.YtacgheafbkfciabGreatDoor
open Go Go.GL

/-! what is held is read -/
theorem Dsk.few_len {D : Dsk} (h : D.ok) : D.S.length ≤ 1024 := h.few
set_option maxHeartbeats 8000000 in
set_option maxRecDepth 10000 in
theorem jscan_ok (j p : Nat) (ring : Nat) (h : Hd) (D : Dsk) (hr : 1 ≤ ring ∧ ring ≤ 512) (hf : 0 ≤ h.first ∧ h.first ≤ 4611686018427387904) (hD : D.ok) (hl : 2 + ring ≤ D.S.length) (hw : D.W.length < 10000) (ht : 0 ≤ h.turn ∧ h.turn ≤ 4611686018427387904) (hg : 0 ≤ h.gen ∧ h.gen ≤ 4611686018427387904) :
    Triple G 74 [.pointer (some ⟨j, 0, none⟩)] [jrn j p ⟨ring, h, []⟩, dsk p D] (fun v M => v = .tuple #[] ∧ M = [jrn j p ⟨ring, h, scanM D ring h⟩, dsk p D]) := by
  refine Triple.enter Tryz.func74 rfl (by decide) rfl Tryz.ntmps74 rfl (fun F => ?_)
  refine WC.open P1 (fun x => ?_)
  unfold jrnL
  dsimp only [List.cons_append, List.nil_append]
  refine WC.scope ?_
  repeat (first | refine GO ?_ | refine NW fun _ => ?_)
  refine WC.label ?_
  repeat (first | refine GO ?_ | refine NW fun _ => ?_)
  refine WC.loop (σ := Nat × List Held × Int) (fun s => s.2.1.length + s.1 = ring ∧ scanF D ring h s.1 s.2.1 s.2.2 = scanM D ring h)
    (fun s => [(0, .val (.pointer (some ⟨j, 0, none⟩))), (2, .val (.int .i64 s.2.2))])
    (fun s => [jrn j p ⟨ring, h, s.2.1⟩, dsk p D, F]) (fun s => s.1) (ring, [], h.low) ⟨by simp, rfl⟩ ⟨rfl, rfl, trivial⟩ ?_ ?_
  · refine Imp.foldP (N := [dsk p D, F]) x ?_ (Imp.refl _)
    unfold jrnL
    exact (by repeat (first | exact Picks.nil _ | apply Picks.cons | exact Pick.here _ _ | apply Pick.there))
  rintro ⟨k, l, low⟩ ⟨hk, hs⟩
  dsimp only at hk hs ⊢
  refine WC.open P1 (fun x => ?_)
  unfold jrnL
  dsimp only [List.cons_append, List.nil_append]
  cases k with
  | zero =>
    have hout : scanM D ring h = l := hs.symm
    have hkl : ring = l.length := by omega
    repeat (first | refine GD ?_ | refine NW fun _ => ?_)
    refine RD 10 10 (_) ?_
    refine WP 0 ?_
    refine WP 1 ?_
    refine WP 2 ?_
    refine VV 3 ?_
    refine WP 4 ?_
    refine WP 5 ?_
    refine WP 6 ?_
    refine WP 7 ?_
    refine VV 8 ?_
    refine WP 9 ?_
    refine DN ?_
    rw [decide_eq_false (show ¬ (l.length : Int) < ring by omega)]
    repeat (first | refine GD ?_ | refine NW fun _ => ?_)
    repeat (first | refine blockK.hit rfl ?_ | refine blockK.miss rfl ?_ | refine seqK.exit ?_ | refine loopK.exit ?_ | refine scopeK.normal ?_)
    refine ret0n ⟨[jrn j p ⟨ring, h, scanM D ring h⟩, dsk p D], ⟨rfl, rfl⟩, ?_⟩
    rw [hout]
    exact Imp.trans II (jrnFold j p ⟨ring, h, l⟩ x)
  | succ k =>
    have hkl : l.length < ring := by omega
    repeat (first | refine GD ?_ | refine NW fun _ => ?_)
    refine RD 10 10 (_) ?_
    refine WP 0 ?_
    refine WP 1 ?_
    refine WP 2 ?_
    refine VV 3 ?_
    refine WP 4 ?_
    refine WP 5 ?_
    refine WP 6 ?_
    refine WP 7 ?_
    refine VV 8 ?_
    refine WP 9 ?_
    refine DN ?_
    rw [decide_eq_true (show (l.length : Int) < ring by omega)]
    have hJ : (⟨ring, h, l⟩ : Jrn).rng := ⟨hr, by dsimp only; omega, ht, hf, hg⟩
    have hnx : (⟨ring, h, l⟩ : Jrn).next = h.first + l.length := rfl
    have hpb := pos_bd hr.1 (h.first + l.length)
    have hfit : scanF D ring h (k + 1) l low = match fits (D.cur (posM ring (h.first + l.length))) (h.first + l.length) low h.gen with
      | some x => scanF D ring h k (l ++ [x]) x.1
      | none => l := rfl
    rw [hfit] at hs
    have h64 := Dsk.cur_64 hD (show posM ring (h.first + l.length) < D.S.length by omega)
    have hrd := dread_rt p D (posM ring (h.first + l.length)) hD (by omega)
    unfold DReadPost at hrd
    rw [Int.toNat_natCast] at hrd
    generalize hb : D.cur (posM ring (h.first + l.length)) = b at *
    have hdec := fun (q : Nat) => decode5_ok (some ⟨q, 0, none⟩) 64 64 b h64.symm (Nat.le_refl _) (by decide)
    have hEJ : ∀ {L : List Assn}, Imp L (jrnL j p ⟨ring, h, l⟩ x) → Ent L (jrn j p ⟨ring, h, l⟩) := fun i => Ent.exI x i
    repeat (first | refine GD ?_ | refine NW fun _ => ?_)
    refine WL.step rfl (OP.callRO rfl rfl (jnext_ro j p ⟨ring, h, l⟩ hJ) (hEJ (by unfold jrnL; exact II)) rfl rfl ?_)
    rw [hnx]
    repeat (first | refine GD ?_ | refine NW fun _ => ?_)
    refine RD 13 13 (_) ?_
    refine WP 0 ?_
    refine WP 1 ?_
    refine WP 2 ?_
    refine VV 3 ?_
    refine WP 4 ?_
    refine WP 5 ?_
    refine WH.only 6 rfl rfl (by kernel_rfl) rfl (OP.callRO rfl rfl (jat_ro j p ⟨ring, h, l⟩ hr (h.first + l.length) (by omega)) (hEJ (by unfold jrnL; exact II)) rfl rfl ⟨fun _ => II, ?_⟩)
    dsimp only
    refine WH.only 7 rfl rfl (by kernel_rfl) rfl (OP.callRT rfl rfl hrd (Ent.at (up_dsk p D) MM) rfl rfl (fun v E hE' => ?_))
    rw [if_pos (by omega)] at hE'
    obtain ⟨br, rfl, rfl⟩ := hE'
    refine ⟨fun _ => II, ?_⟩
    refine WP 8 ?_
    refine WP 9 ?_
    refine WP 10 ?_
    refine WP 11 ?_
    refine WP 12 ?_
    refine DN ?_
    repeat (first | refine GD ?_ | refine NW fun _ => ?_)
    refine WL.step rfl (OP.callRT rfl rfl (hdec br) (Ent.at (up_readS _ _ _ _) MM) rfl rfl ?_)
    rintro v E hDec
    unfold DecPost at hDec
    cases hq : decR b with
    | error c =>
      rw [hq] at hDec
      obtain ⟨e, rfl, b1, rfl, rfl⟩ := hDec
      have hfn : fits b (h.first + l.length) low h.gen = none := fits_none (fun x hx => by rw [hq] at hx; cases hx)
      rw [hfn] at hs
      have hout : scanM D ring h = l := hs.symm
      repeat (first | refine GD ?_ | refine NW fun _ => ?_)
      repeat (first | refine blockK.hit rfl ?_ | refine blockK.miss rfl ?_ | refine seqK.exit ?_ | refine loopK.exit ?_ | refine scopeK.normal ?_)
      refine ret0n ⟨[jrn j p ⟨ring, h, scanM D ring h⟩, dsk p D], ⟨rfl, rfl⟩, ?_⟩
      rw [hout]
      exact Imp.trans II (jrnFold j p ⟨ring, h, l⟩ x)
    | ok y =>
      obtain ⟨g, r⟩ := y
      rw [hq] at hDec
      obtain ⟨rfl, rfl⟩ := hDec
      by_cases h1 : r.1 = h.first + l.length
      rotate_left
      · have hfn : fits b (h.first + l.length) low h.gen = none := by unfold fits; rw [hq]; dsimp only; rw [if_neg (fun h => h1 h.1)]
        rw [hfn] at hs
        have hout : scanM D ring h = l := hs.symm
        repeat (first | refine GD ?_ | refine NW fun _ => ?_)
        repeat (first | refine blockK.hit rfl ?_ | refine blockK.miss rfl ?_ | refine seqK.exit ?_ | refine loopK.exit ?_ | refine scopeK.normal ?_)
        refine ret0n ⟨[jrn j p ⟨ring, h, scanM D ring h⟩, dsk p D], ⟨rfl, rfl⟩, ?_⟩
        rw [hout]
        exact Imp.trans II (jrnFold j p ⟨ring, h, l⟩ x)
      by_cases h2 : low ≤ g
      rotate_left
      · have hfn : fits b (h.first + l.length) low h.gen = none := by unfold fits; rw [hq]; dsimp only; rw [if_neg (fun h => h2 h.2.1)]
        rw [hfn] at hs
        have hout : scanM D ring h = l := hs.symm
        repeat (first | refine GD ?_ | refine NW fun _ => ?_)
        repeat (first | refine blockK.hit rfl ?_ | refine blockK.miss rfl ?_ | refine seqK.exit ?_ | refine loopK.exit ?_ | refine scopeK.normal ?_)
        refine ret0n ⟨[jrn j p ⟨ring, h, scanM D ring h⟩, dsk p D], ⟨rfl, rfl⟩, ?_⟩
        rw [hout]
        exact Imp.trans II (jrnFold j p ⟨ring, h, l⟩ x)
      by_cases h3 : g ≤ h.gen
      rotate_left
      · have hfn : fits b (h.first + l.length) low h.gen = none := by unfold fits; rw [hq]; dsimp only; rw [if_neg (fun h => h3 h.2.2)]
        rw [hfn] at hs
        have hout : scanM D ring h = l := hs.symm
        repeat (first | refine GD ?_ | refine NW fun _ => ?_)
        repeat (first | refine blockK.hit rfl ?_ | refine blockK.miss rfl ?_ | refine seqK.exit ?_ | refine loopK.exit ?_ | refine scopeK.normal ?_)
        refine ret0n ⟨[jrn j p ⟨ring, h, scanM D ring h⟩, dsk p D], ⟨rfl, rfl⟩, ?_⟩
        rw [hout]
        exact Imp.trans II (jrnFold j p ⟨ring, h, l⟩ x)
      have hfn : fits b (h.first + l.length) low h.gen = some (g, r) := by unfold fits; rw [hq]; dsimp only; rw [if_pos ⟨h1, h2, h3⟩]
      rw [hfn] at hs
      dsimp only at hs
      repeat (first | refine GD ?_ | refine NW fun _ => ?_)
      have hen : encR r = [.int .i64 r.1, .int .i64 r.2.1, .int .i64 r.2.2.1, .string r.2.2.2.1, .int .i64 r.2.2.2.2] := rfl
      refine RD 9 13 (_) ?_
      refine WP 0 ?_
      refine WP 1 ?_
      refine WP 2 ?_
      refine WP 3 ?_
      refine VV 4 ?_
      refine WP 5 ?_
      refine VL 6 (.agg (encR r).toArray) rfl rfl rfl rfl (.inr ⟨rfl, encR r, rfl, rfl, Ent.whole MM⟩) ?_
      refine WH.only 7 rfl rfl (by kernel_rfl) rfl (OP.buildT rfl rfl rfl rfl ⟨fun _ => II, ?_⟩)
      refine WH.only 8 rfl rfl (by kernel_rfl) rfl (OP.sliceLit (c := heldC (g, r)) rfl rfl rfl rfl rfl rfl rfl rfl (fun b2 => ⟨fun _ => II, ?_⟩))
      refine WH.only 9 rfl rfl (by kernel_rfl) rfl (OP.append rfl rfl rfl rfl rfl rfl rfl rfl rfl P1 (Ent.own MM) rfl (by omega) (by omega) rfl rfl (fun a' cap' => ⟨(fun h => nomatch h), ?_⟩))
      refine WP 10 ?_
      refine WP 11 ?_
      refine WH.only 12 rfl rfl (by kernel_rfl) rfl (OP.store rfl rfl rfl rfl rfl rfl rfl UP rfl ⟨(fun h => nomatch h), ?_⟩)
      refine DN ?_
      refine ⟨(k, l ++ [(g, r)], g), ⟨by simp; omega, hs⟩, Nat.lt_succ_self k, ⟨rfl, rfl, trivial⟩, ?_⟩
      dsimp only
      refine Imp.trans ?_ (jrnFold j p ⟨ring, h, l ++ [(g, r)]⟩ (a', cap'))
      dsimp only
      rw [List.length_append, List.flatMap_append, List.flatMap_cons, List.flatMap_nil, List.append_nil]
      exact II
end Go.Proofs.YtacgheafbkfciabGreatDoor
/- Contracts of functions of the given program, and plain laws on what they compute: parts of the proofs of laws. -/

namespace Go.Proofs.YtacgheafbkfciabGreatDoor
open Go Go.GL

def jrnT : ByteArray := ⟨#[106, 111, 117, 114, 110, 97, 108]⟩
theorem headOf_wide {b : List UInt8} {slot : Int} {h : Hd} (e : headOf b slot = some h) : (0 ≤ h.turn ∧ h.turn ≤ widest) ∧ (0 ≤ h.first ∧ h.first ≤ widest) ∧ (0 ≤ h.gen ∧ h.gen ≤ widest) := by
  unfold headOf at e
  split at e
  · simp only [Option.some.injEq] at e
    subst e
    unfold hd4
    exact ⟨numR_wide _, numR_wide _, numR_wide _⟩
  · cases e
theorem newestM_wide {a b : List UInt8} {h : Hd} (e : newestM a b = some h) : (0 ≤ h.turn ∧ h.turn ≤ widest) ∧ (0 ≤ h.first ∧ h.first ≤ widest) ∧ (0 ≤ h.gen ∧ h.gen ≤ widest) := by
  have hz : (0 ≤ hd0.turn ∧ hd0.turn ≤ widest) ∧ (0 ≤ hd0.first ∧ hd0.first ≤ widest) ∧ (0 ≤ hd0.gen ∧ hd0.gen ≤ widest) := by decide
  unfold newestM at e
  split at e
  · rename_i x y hx hy
    split at e
    · cases e; exact headOf_wide hy
    · cases e; exact headOf_wide hx
  · rename_i x hx hy; cases e; exact headOf_wide hx
  · rename_i y hx hy; cases e; exact headOf_wide hy
  · split at e
    · cases e; exact hz
    · cases e
theorem scanF_len (D : Dsk) (ring : Nat) (h : Hd) : ∀ (k : Nat) (l : List Held) (low : Int), (scanF D ring h k l low).length ≤ l.length + k
  | 0, l, low => Nat.le_refl _
  | k + 1, l, low => by
    rw [scanF]
    split
    · rename_i x hx
      have := scanF_len D ring h k (l ++ [x]) x.1
      simp at this ⊢
      omega
    · omega
theorem scanM_len (D : Dsk) (ring : Nat) (h : Hd) : (scanM D ring h).length ≤ ring := by
  have := scanF_len D ring h ring [] h.low
  simp only [List.length_nil, Nat.zero_add] at this
  exact this
def OpenJ (p : Nat) (D : Dsk) (ring : Int) (v : Value) (M : List Assn) : Prop := match openM D ring with
  | .ok (J, D') => ∃ j, v = .tuple #[.pointer (some ⟨j, 0, none⟩), .nilIface] ∧ M = [jrn j p J, dsk p D']
  | .error c => ∃ e E, IsEr (some ([(jrnT, ring)], c)) e E ∧ v = .tuple #[.pointer none, e] ∧ M = E ++ [dsk p D]
set_option maxHeartbeats 2000000 in
set_option maxRecDepth 10000 in
theorem jopen_ok (p : Nat) (D : Dsk) (ring : Int) (hD : D.ok) (hw : D.W.length < 10000) (hr64 : -9223372036854775808 ≤ ring ∧ ring ≤ 9223372036854775807) :
    Triple G 54 [.pointer (some ⟨p, 0, none⟩), .int .i64 ring] [dsk p D] (OpenJ p D ring) := by
  refine Triple.enter Tryz.func54 rfl (by decide) rfl Tryz.ntmps54 rfl (fun F => ?_)
  have hwd : widest = 1152921504606846975 := rfl
  have hfew := hD.few
  have hdef : openM D ring = if ring < 1 ∨ 512 < ring ∨ (D.S.length : Int) < 2 + ring then .error 1
    else match newestM (D.cur 0) (D.cur 1) with
    | none => .error 4
    | some h => .ok (⟨ring.toNat, { h with gen := h.gen + 1, turn := h.turn + 1 }, scanM D ring.toNat h⟩, saveM D { h with gen := h.gen + 1, turn := h.turn + 1 }) := rfl
  by_cases h1 : ring < 1
  · have hop : openM D ring = .error 1 := by rw [hdef, if_pos (.inl h1)]
    repeat (first | refine GD ?_ | refine NW fun _ => ?_)
    refine WL.step rfl (OP.call (pre := []) rfl rfl (wrap_ok jrnT ring 1 (by decide)) PS rfl rfl ?_)
    intro v M hF
    obtain ⟨M', h1, h2⟩ := hF.isEr
    repeat (first | refine GD ?_ | refine NW fun _ => ?_)
    refine ret2 rfl rfl ⟨M' ++ [dsk p D], ?_, ?_⟩
    · unfold OpenJ
      rw [hop]
      exact ⟨v, M', h1, rfl, rfl⟩
    · rw [List.append_assoc]
      exact (Imp.app h2 _).trans (Imp.appL II _)
  by_cases h2 : 512 < ring
  · have hop : openM D ring = .error 1 := by rw [hdef, if_pos (.inr (.inl h2))]
    repeat (first | refine GD ?_ | refine NW fun _ => ?_)
    refine WL.step rfl (OP.call (pre := []) rfl rfl (wrap_ok jrnT ring 1 (by decide)) PS rfl rfl ?_)
    intro v M hF
    obtain ⟨M', h1, h2⟩ := hF.isEr
    repeat (first | refine GD ?_ | refine NW fun _ => ?_)
    refine ret2 rfl rfl ⟨M' ++ [dsk p D], ?_, ?_⟩
    · unfold OpenJ
      rw [hop]
      exact ⟨v, M', h1, rfl, rfl⟩
    · rw [List.append_assoc]
      exact (Imp.app h2 _).trans (Imp.appL II _)
  repeat (first | refine GD ?_ | refine NW fun _ => ?_)
  refine WL.guardT rfl rfl rfl rfl (OP.callRO rfl rfl (dlen_ro p D) (Ent.at (up_dsk p D) MM) rfl rfl ?_)
  by_cases h3 : (D.S.length : Int) < 2 + ring
  · have hop : openM D ring = .error 1 := by rw [hdef, if_pos (.inr (.inr h3))]
    repeat (first | refine GD ?_ | refine NW fun _ => ?_)
    refine WL.step rfl (OP.call (pre := []) rfl rfl (wrap_ok jrnT ring 1 (by decide)) PS rfl rfl ?_)
    intro v M hF
    obtain ⟨M', h1, h2⟩ := hF.isEr
    repeat (first | refine GD ?_ | refine NW fun _ => ?_)
    refine ret2 rfl rfl ⟨M' ++ [dsk p D], ?_, ?_⟩
    · unfold OpenJ
      rw [hop]
      exact ⟨v, M', h1, rfl, rfl⟩
    · rw [List.append_assoc]
      exact (Imp.app h2 _).trans (Imp.appL II _)
  rw [if_neg (by omega)] at hdef
  have hnw := newest_rt p D hD (by omega) (by omega)
  repeat (first | refine GD ?_ | refine NW fun _ => ?_)
  refine WL.step rfl (OP.callRT rfl rfl hnw (Ent.at (up_dsk p D) MM) rfl rfl ?_)
  rintro v E ⟨hN, rfl⟩
  unfold NewHdP at hN
  cases hq : newestM (D.cur 0) (D.cur 1) with
  | none =>
    rw [hq] at hN hdef
    obtain ⟨h', rfl⟩ := hN
    have hop : openM D ring = .error 4 := hdef
    repeat (first | refine GD ?_ | refine NW fun _ => ?_)
    refine WL.step rfl (OP.call (pre := []) rfl rfl (wrap_ok jrnT ring 4 (by decide)) PS rfl rfl ?_)
    intro v M hF
    obtain ⟨M', h1, h2⟩ := hF.isEr
    repeat (first | refine GD ?_ | refine NW fun _ => ?_)
    refine ret2 rfl rfl ⟨M' ++ [dsk p D], ?_, ?_⟩
    · unfold OpenJ
      rw [hop]
      exact ⟨v, M', h1, rfl, rfl⟩
    · rw [List.append_assoc]
      exact (Imp.app h2 _).trans (Imp.appL II _)
  | some h =>
    rw [hq] at hN hdef
    obtain rfl := hN
    obtain ⟨⟨t1, t2⟩, ⟨f1, f2⟩, ⟨g1, g2⟩⟩ := newestM_wide hq
    obtain ⟨n, rfl⟩ : ∃ n : Nat, ring = n := ⟨ring.toNat, by omega⟩
    rw [Int.toNat_natCast] at hdef
    dsimp only at hdef
    have hsl := scanM_len D n h
    have hsc := fun j => jscan_ok j p n h D ⟨by omega, by omega⟩ ⟨f1, by omega⟩ hD (by omega) hw ⟨t1, by omega⟩ ⟨g1, by omega⟩
    repeat (first | refine GD ?_ | refine NW fun _ => ?_)
    rename_i j
    refine WL.imp (M := [jrn j p ⟨n, h, []⟩, dsk p D, F]) ((Imp.nilS 100 6).trans (Imp.trans II (jrnFold j p ⟨n, h, []⟩ (none, 0)))) ?_
    refine WL.step rfl (OP.call (pre := [jrn j p ⟨n, h, []⟩, dsk p D]) rfl rfl (hsc j) PS rfl rfl ?_)
    rintro _ _ ⟨rfl, rfl⟩
    have hsv := jsave_ok j p ⟨n, ⟨h.turn, h.first, h.gen + 1, h.low⟩, scanM D n h⟩ D ⟨t1, by dsimp only; omega⟩ hD (by omega) hw
    generalize scanM D n h = l at *
    refine WL.open P1 (fun x => ?_)
    unfold jrnL
    dsimp only [List.cons_append, List.nil_append]
    repeat (first | refine GD ?_ | refine NW fun _ => ?_)
    refine WL.imp (M := [jrn j p ⟨n, ⟨h.turn, h.first, h.gen + 1, h.low⟩, l⟩, dsk p D, F]) (Imp.trans II (jrnFold j p ⟨n, ⟨h.turn, h.first, h.gen + 1, h.low⟩, l⟩ x)) ?_
    refine WL.step rfl (OP.call (pre := [jrn j p ⟨n, ⟨h.turn, h.first, h.gen + 1, h.low⟩, l⟩, dsk p D]) rfl rfl hsv PS rfl rfl ?_)
    rintro _ _ ⟨rfl, rfl⟩
    repeat (first | refine GD ?_ | refine NW fun _ => ?_)
    refine ret2 rfl rfl ⟨_, ?_, Imp.refl _⟩
    unfold OpenJ
    rw [hdef]
    exact ⟨j, rfl, rfl⟩
set_option maxRecDepth 10000 in
theorem jflush_ok (j p : Nat) (J : Jrn) (D : Dsk) (hD : D.ok) (hw : D.W.length < 10000) :
    Triple G 20 [.pointer (some ⟨j, 0, none⟩)] [jrn j p J, dsk p D] (fun v M => v = .tuple #[] ∧ M = [jrn j p J, dsk p D.flush]) := by
  refine Triple.enter Tryz.func20 rfl (by decide) rfl Tryz.ntmps20 rfl (fun F => ?_)
  refine WC.open P1 (fun x => ?_)
  unfold jrnL
  dsimp only [List.cons_append, List.nil_append]
  repeat (first | refine GO ?_ | refine NW fun _ => ?_)
  refine WL.step rfl (OP.call (pre := [dsk p D]) rfl rfl (dflush_ok p D hD (by omega)) PS rfl rfl ?_)
  rintro _ _ ⟨rfl, rfl⟩
  repeat (first | refine GO ?_ | refine NW fun _ => ?_)
  exact ret0n ⟨_, ⟨rfl, rfl⟩, Imp.trans II (jrnFold j p J x)⟩
/-- what is told: the records -/
def RecsPost (l : List Held) (v : Value) (E : List Assn) : Prop := ∃ a cap, v = .slice a l.length cap ∧ E = [ownS a l.length cap 64 5 (l.flatMap (fun x => encR x.2))]
set_option maxHeartbeats 1000000 in
set_option maxRecDepth 10000 in
theorem jrecords_rt (j p : Nat) (J : Jrn) (hJ : J.rng) : RT G 55 [.pointer (some ⟨j, 0, none⟩)] (jrn j p J) (RecsPost J.held) := by
  refine RT.enterEx Tryz.func55 rfl (by decide) rfl Tryz.ntmps55 rfl (fun x A hu hA => ?_)
  have hB : ∀ {L}, A ∈ L → Ent L (cellsAt j 0 [.pointer (some ⟨p, 0, none⟩), .int .i64 J.ring, .int .i64 J.hd.turn, .int .i64 J.hd.first, .int .i64 J.hd.gen, .int .i64 J.hd.low, .slice x.1 J.held.length x.2]) := fun m => Ent.of hu hA m (Ent.whole (List.Mem.head _))
  have hH : ∀ {L}, A ∈ L → Ent L (readS x.1 J.held.length 6 (J.held.flatMap heldC)) := fun m => Ent.of hu hA m (Ent.own (List.Mem.tail _ (List.Mem.head _)))
  obtain ⟨⟨r1, r2⟩, hlen, _, _, _⟩ := hJ
  obtain ⟨ring, hd, l⟩ := J
  dsimp only at hB hH hlen r2 ⊢
  repeat (first | refine GO ?_ | refine NW fun _ => ?_)
  refine WL.step rfl (OP.load1 (v := .slice x.1 l.length x.2) rfl rfl rfl rfl (Ent.one (i := 6) (hB MM) rfl) rfl rfl ?_)
  repeat (first | refine GO ?_ | refine NW fun _ => ?_)
  refine WC.imp (Imp.nilS 64 5) ?_
  refine WC.loop (σ := Nat × Option Addr × Nat) (fun s => s.1 ≤ l.length)
    (fun s => [(0, .val (.pointer (some ⟨j, 0, none⟩))), (3, .val (.slice s.2.1 s.1 s.2.2)), (11, .val (.slice x.1 l.length x.2)), (12, .val (.int .i64 l.length)), (13, .val (.int .i64 s.1))])
    (fun s => [ownS s.2.1 s.1 s.2.2 64 5 ((l.take s.1).flatMap (fun x => encR x.2)), A]) (fun s => l.length - s.1) (0, none, 0) (Nat.zero_le _) ⟨rfl, rfl, rfl, rfl, rfl, trivial⟩ (Imp.refl _) ?_
  rintro ⟨k, a, cap⟩ hk
  dsimp only at hk ⊢
  by_cases hlt : k < l.length
  rotate_left
  · have he : k = l.length := by omega
    subst he
    rw [List.take_length]
    repeat (first | refine GD ?_ | refine NW fun _ => ?_)
    exact ret1 rfl ⟨_, ⟨a, cap, rfl, rfl⟩, Imp.refl _⟩
  have hsn : (l.take (k + 1)).flatMap (fun x => encR x.2) = (l.take k).flatMap (fun x => encR x.2) ++ encR l[k].2 := by
    rw [← List.take_append_getElem hlt, List.flatMap_append, List.flatMap_cons, List.flatMap_nil, List.append_nil]
  refine WC.fact (Ent.some (hH MM) (by omega)) ?_
  rintro ⟨b, off, hx⟩
  rw [hx]
  rw [hx] at hH
  repeat (first | refine GD ?_ | refine NW fun _ => ?_)
  refine WL.step rfl (OP.loadA (l := heldC l[k]) rfl rfl rfl rfl (Ent.elA heldC_len (hH MM) hlt) rfl rfl rfl ?_)
  generalize l[k] = e at *
  obtain ⟨g, r⟩ := e
  dsimp only at hsn
  repeat (first | refine GD ?_ | refine NW fun _ => ?_)
  refine WL.step rfl (OP.append (ds := encR r) rfl rfl rfl rfl rfl rfl rfl rfl rfl P1 (Ent.own MM) rfl (by omega) (by omega) rfl rfl (fun a' cap' => ?_))
  repeat (first | refine GD ?_ | refine NW fun _ => ?_)
  exact ⟨(k + 1, a', cap'), by dsimp only; omega, by dsimp only; omega, ⟨rfl, rfl, rfl, rfl, rfl, trivial⟩, by dsimp only; rw [hsn]; exact II⟩
end Go.Proofs.YtacgheafbkfciabGreatDoor
/- Contracts of functions of the given program, and plain laws on what they compute: parts of the proofs of laws. -/

namespace Go.Proofs.YtacgheafbkfciabGreatDoor
open Go Go.GL

/-- the faults of an append -/
def appEr (J : Jrn) (c : Int) : List (ByteArray × Int) := if c = 6 then [(jrnT, J.next)] else [(jrnT, J.next), (recW, J.next)]
def AppJ (j p : Nat) (J : Jrn) (D : Dsk) (r : Rec) (v : Value) (M : List Assn) : Prop := match appendM J D r with
  | .ok (J', D') => v = .tuple #[.int .i64 J.next, .nilIface] ∧ M = [jrn j p J', dsk p D']
  | .error c => ∃ e E, IsEr (some (appEr J c, c)) e E ∧ v = .tuple #[.int .i64 0, e] ∧ M = E ++ [jrn j p J, dsk p D]
set_option maxHeartbeats 8000000 in
set_option maxRecDepth 10000 in
theorem jappend_ok (j p : Nat) (J : Jrn) (D : Dsk) (r : Rec) (hJ : J.rng) (hl : 2 + J.ring ≤ D.S.length) (hw : D.W.length < 10000) (hsz : r.2.2.2.1.size < 1000000) :
    Triple G 19 [.pointer (some ⟨j, 0, none⟩), .agg (encR r).toArray] [jrn j p J, dsk p D] (AppJ j p J D r) := by
  refine Triple.enter Tryz.func19 rfl (by decide) rfl Tryz.ntmps19 rfl (fun F => ?_)
  have hnext := jnext_ro j p J hJ
  have hroom := jroom_ro j p J hJ
  have hdef : appendM J D r = if J.held.length = J.ring then .error 6
    else if RightR (setSeq r J.next) ∧ (0 ≤ J.hd.gen ∧ J.hd.gen ≤ widest) then
    .ok ({ J with held := J.held ++ [(J.hd.gen, setSeq r J.next)] }, D.put (posM J.ring J.next) (sectorM (bodyM J.hd.gen (setSeq r J.next))))
    else .error 1 := rfl
  have hnx : J.next = J.hd.first + J.held.length := rfl
  obtain ⟨⟨r1, r2⟩, hlen, ⟨t1, t2⟩, ⟨f1, f2⟩, ⟨g1, g2⟩⟩ := hJ
  have hn0 : 0 ≤ J.next ∧ J.next ≤ 9000000000000000000 := by omega
  have hat := jat_ro j p J ⟨r1, r2⟩ J.next (by omega)
  have hpb := pos_bd r1 J.next
  obtain ⟨seq, kind, block, data, num⟩ := r
  have hss : setSeq (seq, kind, block, data, num) J.next = (J.next, kind, block, data, num) := rfl
  rw [hss] at hdef
  dsimp only at hsz
  have henc := encode_ok J.hd.gen (J.next, kind, block, data, num) hsz
  unfold EncPost at henc
  rw [show encR (seq, kind, block, data, num) = [.int .i64 seq, .int .i64 kind, .int .i64 block, .string data, .int .i64 num] from rfl]
  rw [show encR (J.next, kind, block, data, num) = [.int .i64 J.next, .int .i64 kind, .int .i64 block, .string data, .int .i64 num] from rfl] at henc
  have hwr := dwrite_ok p D (posM J.ring J.next) (sectorM (bodyM J.hd.gen (J.next, kind, block, data, num)))
  have hEJ : ∀ {L : List Assn} {x}, Imp L (jrnL j p J x) → Ent L (jrn j p J) := fun i => Ent.exI _ i
  repeat (first | refine GD ?_ | refine NW fun _ => ?_)
  refine WL.step rfl (OP.callRO rfl rfl hnext (Ent.at (up_jrn j p J) MM) rfl rfl ?_)
  repeat (first | refine GD ?_ | refine NW fun _ => ?_)
  refine WL.step rfl (OP.callRO rfl rfl hroom (Ent.at (up_jrn j p J) MM) rfl rfl ?_)
  by_cases hfull : J.held.length = J.ring
  · rw [if_pos hfull] at hdef
    rw [hfull, Int.sub_self]
    repeat (first | refine GD ?_ | refine NW fun _ => ?_)
    refine WL.step rfl (OP.call (pre := []) rfl rfl (wrap_ok jrnT J.next 6 (by decide)) PS rfl rfl ?_)
    intro v M hF
    obtain ⟨M', h1, h2⟩ := hF.isEr
    repeat (first | refine GD ?_ | refine NW fun _ => ?_)
    refine ret2 rfl rfl ⟨M' ++ [jrn j p J, dsk p D], ?_, ?_⟩
    · unfold AppJ
      rw [hdef]
      exact ⟨v, M', h1, rfl, rfl⟩
    · rw [List.append_assoc]
      exact (Imp.app h2 _).trans (Imp.appL II _)
  rw [if_neg hfull] at hdef
  have hne : ¬ (J.ring : Int) - J.held.length = 0 := by omega
  repeat (first | refine GD ?_ | refine NW fun _ => ?_)
  refine WC.open P1 (fun x => ?_)
  unfold jrnL
  dsimp only [List.cons_append, List.nil_append]
  by_cases hR : RightR (J.next, kind, block, data, num) ∧ (0 ≤ J.hd.gen ∧ J.hd.gen ≤ widest)
  rotate_left
  · rw [if_neg hR] at hdef
    refine RD 12 12 (_) ?_
    refine WP 0 ?_
    refine WP 1 ?_
    refine WP 2 ?_
    refine WP 3 ?_
    refine VV 4 ?_
    refine VV 5 ?_
    refine WH.only 6 rfl rfl (by kernel_rfl) rfl (OP.callRT rfl rfl henc (fun _ _ => trivial) rfl rfl (fun v E hE' => ?_))
    rw [if_neg hR] at hE'
    obtain ⟨e, rfl, hF⟩ := hE'
    obtain ⟨b, rfl, rfl⟩ := hF
    refine ⟨fun _ => II, ?_⟩
    refine WP 7 ?_
    refine WP 8 ?_
    refine WP 9 ?_
    refine WP 10 ?_
    refine WP 11 ?_
    refine DN ?_
    repeat (first | refine GD ?_ | refine NW fun _ => ?_)
    refine WL.imp Imp.chain1 ?_
    refine WL.step rfl (OP.call (pre := [chainR [(_, recW, J.next)] 1]) rfl rfl (wrapC_ok jrnT J.next [(_, recW, J.next)] 1 (fun h => nomatch h.1)) PS rfl rfl ?_)
    rintro v M ⟨ch, h1, rfl, rfl⟩
    repeat (first | refine GD ?_ | refine NW fun _ => ?_)
    refine ret2 rfl rfl ⟨[chainR ch 1] ++ [jrn j p J, dsk p D], ?_, ?_⟩
    · unfold AppJ
      rw [hdef]
      exact ⟨_, _, ⟨ch, h1, rfl, rfl⟩, rfl, rfl⟩
    · exact Imp.trans II ((jrnFold j p J x (N := [chainR ch 1, dsk p D, F])).trans II)
  rw [if_pos hR] at hdef
  have hsl := sectorM_len (bodyM_len (gen := J.hd.gen) hR.1)
  generalize hS : sectorM (bodyM J.hd.gen (J.next, kind, block, data, num)) = S at *
  refine RD 12 12 (_) ?_
  refine WP 0 ?_
  refine WP 1 ?_
  refine WP 2 ?_
  refine WP 3 ?_
  refine VV 4 ?_
  refine VV 5 ?_
  refine WH.only 6 rfl rfl (by kernel_rfl) rfl (OP.callRT rfl rfl henc (fun _ _ => trivial) rfl rfl (fun v E hE' => ?_))
  rw [if_pos hR] at hE'
  obtain ⟨v1, rfl, a6, cap6, rfl, rfl⟩ := hE'
  refine ⟨fun _ => II, ?_⟩
  refine WP 7 ?_
  refine WP 8 ?_
  refine WP 9 ?_
  refine WP 10 ?_
  refine WP 11 ?_
  refine DN ?_
  repeat (first | refine GD ?_ | refine NW fun _ => ?_)
  refine RD 9 10 (_) ?_
  refine WP 0 ?_
  refine WP 1 ?_
  refine WP 2 ?_
  refine VV 3 ?_
  refine WP 4 ?_
  refine WP 5 ?_
  refine VV 6 ?_
  refine WP 8 ?_
  refine WH.only 7 rfl rfl (by kernel_rfl) rfl (OP.callRO rfl rfl (hat) (hEJ (x := x) (by unfold jrnL; exact II)) rfl rfl ⟨fun _ => II, ?_⟩)
  refine WH.only 9 rfl rfl (by kernel_rfl) rfl (OP.call (pre := [dsk p D, ownS a6 S.length cap6 5 1 (S.map byteV)]) rfl rfl (hwr a6 cap6 (by omega) (by omega)) PS rfl rfl (fun v M hM => ?_))
  unfold WrPost at hM
  rw [if_pos ⟨by omega, hsl⟩, Int.toNat_natCast] at hM
  obtain ⟨rfl, rfl⟩ := hM
  refine ⟨(fun h => nomatch h), ?_⟩
  refine DN ?_
  repeat (first | refine GD ?_ | refine NW fun _ => ?_)
  refine RD 13 17 (_) ?_
  refine WP 0 ?_
  refine WP 1 ?_
  refine WP 2 ?_
  refine WP 3 ?_
  refine VV 4 ?_
  refine WP 5 ?_
  refine WP 6 ?_
  refine WP 7 ?_
  refine WP 8 ?_
  refine VV 9 ?_
  refine VV 10 ?_
  refine WH.only 11 rfl rfl (by kernel_rfl) rfl (OP.buildT rfl rfl rfl rfl ⟨fun _ => II, ?_⟩)
  refine WH.only 12 rfl rfl (by kernel_rfl) rfl (OP.sliceLit (c := heldC (J.hd.gen, J.next, kind, block, data, num)) rfl rfl rfl rfl rfl rfl rfl rfl (fun b2 => ⟨fun _ => II, ?_⟩))
  refine WH.only 13 rfl rfl (by kernel_rfl) rfl (OP.append rfl rfl rfl rfl rfl rfl rfl rfl rfl P1 (Ent.own MM) rfl (by omega) (by omega) rfl rfl (fun a' cap' => ⟨(fun h => nomatch h), ?_⟩))
  refine WP 14 ?_
  refine WP 15 ?_
  refine WH.only 16 rfl rfl (by kernel_rfl) rfl (OP.store rfl rfl rfl rfl rfl rfl rfl UP rfl ⟨(fun h => nomatch h), ?_⟩)
  refine DN ?_
  repeat (first | refine GD ?_ | refine NW fun _ => ?_)
  refine ret2 rfl rfl ⟨[jrn j p { J with held := J.held ++ [(J.hd.gen, J.next, kind, block, data, num)] }, dsk p (D.put (posM J.ring J.next) S)], ?_, ?_⟩
  · unfold AppJ
    rw [hdef]
    exact ⟨rfl, rfl⟩
  · refine Imp.trans ?_ (jrnFold j p { J with held := J.held ++ [(J.hd.gen, J.next, kind, block, data, num)] } (a', cap'))
    dsimp only
    rw [List.length_append, List.flatMap_append, List.flatMap_cons, List.flatMap_nil, List.append_nil]
    exact II
end Go.Proofs.YtacgheafbkfciabGreatDoor
/- Contracts of functions of the given program, and plain laws on what they compute: parts of the proofs of laws. -/
namespace Go.Proofs.YtacgheafbkfciabGreatDoor
open Go Go.GL

theorem JInv.rng {J : Jrn} {D : Dsk} {f : Nat} {B : Int} (I : JInv J D f B) (hB : B + 2 ≤ widest) : J.rng := by
  have h1 := I.ring
  have h2 := I.len
  have h3 := I.hdr
  have h4 := I.bound
  have hw : widest = 1152921504606846975 := rfl
  exact ⟨⟨h1.1, h1.2.1⟩, h2, by omega, by omega, by omega⟩
theorem JInv.few {J : Jrn} {D : Dsk} {f : Nat} {B : Int} (I : JInv J D f B) : D.W.length < 10000 := by
  have h1 := I.ring
  have h2 := I.len
  have h3 := I.wlen
  omega
theorem JInv.mono {J : Jrn} {D : Dsk} {f : Nat} {B B' : Int} (I : JInv J D f B) (h : B ≤ B') : JInv J D f B' := { I with bound := Int.le_trans I.bound h }
end Go.Proofs.YtacgheafbkfciabGreatDoor
/- Contracts of functions of the given program, and plain laws on what they compute: parts of the proofs of laws. -/
namespace Go.Proofs.YtacgheafbkfciabGreatDoor
open Go Go.GL

/-! the coordinator: the plain model -/
def coordT : ByteArray := ⟨#[99, 111, 111, 114, 100]⟩
def memT : ByteArray := ⟨#[109, 101, 109, 98, 101, 114]⟩
def plusB : ByteArray := ⟨#[43]⟩
def minusB : ByteArray := ⟨#[45]⟩
structure Crd where
  J : Jrn
  D : Dsk
  f : List Bool
  ch : List Ch
  R : Rnd
  last : Int
  marked : Int
def Crd.mem (C : Crd) (k : Int) : List Int := listM (atM k C.f C.ch)
/-- a record of the journal is known -/
def knowM (f : List Bool) (s : Int × List Ch) (r : Rec) : Int × List Ch :=
  if r.2.1 = 2 then (if s.1 < r.2.2.2.2 then r.2.2.2.2 else s.1, s.2)
  else if r.2.2.2.1 = plusB ∨ r.2.2.2.1 = minusB then (s.1, putCh f s.2 (s.1 + 1, r.2.2.1, decide (r.2.2.2.1 ≠ plusB)))
  else s
def knowAll (f : List Bool) (l : List Rec) : Int × List Ch := l.foldl (knowM f) (0, [])
def startC (f : List Bool) (J : Jrn) (D : Dsk) : Crd := ⟨J, D, f, (knowAll f (J.held.map Prod.snd)).2, rnd0, (knowAll f (J.held.map Prod.snd)).1, 0⟩
def openC (D : Dsk) (ring : Int) (l : List Int) : Except (List (ByteArray × Int) × Int) Crd :=
  match newM l f0 with
  | .error (v, c) => .error ([(coordT, 0), (memT, v)], c)
  | .ok f => match openM D ring with
    | .error c => .error ([(coordT, 0), (jrnT, ring)], c)
    | .ok (J, D') => .ok (startC f J D')
def Rnd.start (R : Rnd) (number : Int) (vols : List Int) : List Cmd × Rnd := ({ R with number := number, latest := number, marked := false, vols := vols } : Rnd).enter 1
def markR (n : Int) : Rec := (0, 2, 0, ⟨#[]⟩, n)
def chgR (v : Int) (inn : Bool) : Rec := (0, 1, v, if inn = true then plusB else minusB, 0)
def beginC (C : Crd) : Except (List (ByteArray × Int) × Int) ((Int × List Cmd) × Crd) :=
  if C.R.number ≠ 0 then .error ([(coordT, C.last + 1)], 9)
  else if C.mem (C.last + 1) = [] then .error ([(coordT, C.last + 1)], 8)
  else match appendM C.J C.D (markR (C.last + 1)) with
    | .error c => .error ((coordT, C.last + 1) :: appEr C.J c, c)
    | .ok (J', D') => .ok ((C.last + 1, (C.R.start (C.last + 1) (C.mem (C.last + 1))).1), { C with J := J', D := D'.flush, last := C.last + 1, R := (C.R.start (C.last + 1) (C.mem (C.last + 1))).2 })
def answerC (C : Crd) (c : Cmd) : Except (List (ByteArray × Int) × Int) (List Cmd × Crd) :=
  match answerR C.R c with
  | .error e => .error ([(coordT, c.2.2), (roundT, c.2.2)], e)
  | .ok (l, R') => .ok (l, { C with R := R', marked := if R'.complete = true then R'.done else C.marked })
def tickC (C : Crd) : List Cmd × Crd := ((tickR C.R).1, { C with R := (tickR C.R).2 })
def changeC (C : Crd) (v : Int) (inn : Bool) : Except (List (ByteArray × Int) × Int) Crd :=
  if C.J.held.length = C.J.ring then .error ([(coordT, v)], 6)
  else match putM C.f C.ch (C.last + 1, v, !inn) with
    | some c => .error ([(coordT, v), (memT, v)], c)
    | none => match appendM C.J C.D (chgR v inn) with
      | .error c => .error ((coordT, v) :: appEr C.J c, c)
      | .ok (J', D') => .ok { C with J := J', D := D'.flush, ch := C.ch ++ [(C.last + 1, v, !inn)] }

/-- what holds of a round -/
structure RI (R : Rnd) (last : Int) : Prop where
  late : R.latest ≤ last
  num : R.number = 0 ∨ R.number = last
  vols : R.number ≠ 0 → RightV R.vols ∧ 1 ≤ R.phase ∧ R.phase ≤ 3
  left : 0 ≤ R.left ∧ R.left ≤ 6
  nat : 0 ≤ R.number ∧ 0 ≤ R.done ∧ R.done ≤ last
  vl : R.vols.length ≤ 4
theorem len_le_of_mem : ∀ {a b : List Int}, a.Nodup → (∀ x ∈ a, x ∈ b) → a.length ≤ b.length
  | [], _, _, _ => Nat.zero_le _
  | x :: a, b, hn, hs => by
    have hx := hs x List.mem_cons_self
    have hn' := List.nodup_cons.1 hn
    have h := len_le_of_mem (a := a) (b := b.erase x) hn'.2 (fun y hy => by
      have hne : y ≠ x := fun e => hn'.1 (e ▸ hy)
      exact (List.mem_erase_of_ne hne).2 (hs y (List.mem_cons_of_mem _ hy)))
    rw [List.length_erase_of_mem hx] at h
    have : 0 < b.length := List.length_pos_of_mem hx
    simp only [List.length_cons]
    omega
theorem RightV.len {l : List Int} (h : RightV l) : l.length ≤ 4 := len_le_of_mem (b := [0, 1, 2, 3]) h.2.1 fun v hv => by
  have := h.2.2 v hv
  obtain rfl | rfl | rfl | rfl : v = 0 ∨ v = 1 ∨ v = 2 ∨ v = 3 := by omega
  all_goals simp
theorem RI.zero {last : Int} (h : 0 ≤ last) : RI rnd0 last := ⟨h, .inl rfl, fun h => absurd rfl h, by decide, by refine ⟨by decide, by decide, h⟩, by decide⟩
theorem rightV_list {f : List Bool} (hf : f.length = 4) (h : listM f ≠ []) : RightV (listM f) := by
  refine ⟨h, (listM_rise f hf).imp (fun h => by omega), fun v hv => ?_⟩
  unfold listM at hv
  obtain ⟨a, ha, rfl⟩ := List.mem_map.1 hv
  have := List.mem_range.1 (List.mem_filter.1 ha).1
  exact ⟨Int.natCast_nonneg _, by show (a : Int) < 4; omega⟩
theorem RI.start {R : Rnd} {last : Int} (I : RI R last) (h0 : 0 ≤ last) {l : List Int} (hl : RightV l) : RI (R.start (last + 1) l).2 (last + 1) :=
  ⟨Int.le_refl _, .inr rfl, fun _ => ⟨hl, (by decide : (1 : Int) ≤ 1), (by decide : (1 : Int) ≤ 3)⟩, (by decide : (0 : Int) ≤ 6 ∧ (6 : Int) ≤ 6), by have := I.nat; exact ⟨(by show 0 ≤ last + 1; omega), this.2.1, by show R.done ≤ last + 1; omega⟩, hl.len⟩
theorem RI.begin {R : Rnd} {last : Int} (I : RI R last) (hn : R.number = 0) {l : List Int} (hl : RightV l) : beginR R (last + 1) l = .ok (R.start (last + 1) l) := by
  unfold beginR
  have := I.late
  rw [if_neg (by omega), if_neg (by omega), if_neg (not_not_intro hl)]
  rfl
theorem RI.next {R : Rnd} {last : Int} (I : RI R last) (hn : R.number ≠ 0) : RI (nextR R).2 last := by
  obtain ⟨h1, h2, h3⟩ := I.vols hn
  have hd := I.nat
  unfold nextR
  split
  · exact ⟨I.late, I.num, fun _ => ⟨h1, (by decide : (1 : Int) ≤ 3), (by decide : (3 : Int) ≤ 3)⟩, (by decide : (0 : Int) ≤ 6 ∧ (6 : Int) ≤ 6), hd, I.vl⟩
  · split
    · exact ⟨I.late, I.num, fun _ => ⟨h1, (by decide : (1 : Int) ≤ 2), (by decide : (2 : Int) ≤ 3)⟩, (by decide : (0 : Int) ≤ 6 ∧ (6 : Int) ≤ 6), hd, I.vl⟩
    · have := I.num
      exact ⟨I.late, .inl rfl, fun h => absurd rfl h, I.left, ⟨(by decide : (0 : Int) ≤ 0), hd.1, by show R.number ≤ last; omega⟩, Nat.zero_le _⟩
theorem RI.answer {R : Rnd} {last : Int} (I : RI R last) {c : Cmd} {l : List Cmd} {R' : Rnd} (h : answerR R c = .ok (l, R')) : RI R' last := by
  unfold answerR at h
  split at h
  · cases h
  rename_i hn
  split at h
  · cases h
  have I2 : RI { R with ans := setA R.ans c.2.1 } last := ⟨I.late, I.num, I.vols, I.left, I.nat, I.vl⟩
  split at h
  · cases h; exact I2
  · have h2 : (nextR { R with ans := setA R.ans c.2.1 }).2 = R' := congrArg Prod.snd (Except.ok.inj h)
    rw [← h2]
    exact I2.next (fun e => hn (.inl e))
theorem RI.tick {R : Rnd} {last : Int} (I : RI R last) : RI (tickR R).2 last := by
  unfold tickR
  have hl := I.left
  split
  · exact I
  rename_i hn
  split
  · exact ⟨I.late, I.num, I.vols, (by show 0 ≤ R.left - 1 ∧ R.left - 1 ≤ 6; omega), I.nat, I.vl⟩
  split
  · obtain ⟨h1, h2, h3⟩ := I.vols hn
    exact ⟨I.late, I.num, fun _ => ⟨h1, (by decide : (1 : Int) ≤ 3), (by decide : (3 : Int) ≤ 3)⟩, (by decide : (0 : Int) ≤ 6 ∧ (6 : Int) ≤ 6), I.nat, I.vl⟩
  · exact ⟨I.late, I.num, I.vols, (by decide : (0 : Int) ≤ 6 ∧ (6 : Int) ≤ 6), I.nat, I.vl⟩
/-- what holds of a coordinator that is up -/
structure CInv (C : Crd) (B : Int) : Prop where
  J : JInv C.J C.D C.J.held.length B
  f4 : C.f.length = 4
  know : (C.last, C.ch) = knowAll C.f (C.J.held.map Prod.snd)
  vols : Vols C.ch
  srt : Srt C.ch
  few : C.ch.length ≤ 100
  lastc : lastM C.ch ≤ C.last + 1
  last : 0 ≤ C.last ∧ C.last ≤ C.J.held.length
  R : RI C.R C.last
  full : C.R.complete = true → C.marked = C.R.done
  marked : 0 ≤ C.marked ∧ C.marked ≤ C.last
theorem CInv.W {C : Crd} {B : Int} (I : CInv C B) : C.D.W = [] := by
  have := I.J.loose
  rw [List.drop_eq_nil_of_le (Nat.le_refl _)] at this
  exact this
theorem CInv.mono {C : Crd} {B B' : Int} (I : CInv C B) (h : B ≤ B') : CInv C B' := { I with J := { I.J with bound := Int.le_trans I.J.bound h } }
theorem CInv.num {C : Crd} {B : Int} (I : CInv C B) : C.last ≤ 512 := by
  have h1 := I.last
  have h2 := I.J.len
  have h3 := I.J.ring
  omega
theorem knowAll_snoc (f : List Bool) (l : List Rec) (r : Rec) : knowAll f (l ++ [r]) = knowM f (knowAll f l) r := by unfold knowAll; rw [List.foldl_append]; rfl
theorem CInv.right {C : Crd} {B : Int} (I : CInv C B) (hB : B + 4 ≤ widest) (hn : C.J.held.length ≠ C.J.ring) {r : Rec} (hr : (r.2.1 = 2 ∧ (1 ≤ r.2.2.2.2 ∧ r.2.2.2.2 ≤ widest) ∧ r.2.2.2.1 = ⟨#[]⟩ ∧ r.2.2.1 = 0) ∨ (r.2.1 = 1 ∧ (0 ≤ r.2.2.1 ∧ r.2.2.1 < 8) ∧ r.2.2.2.1.size ≤ 16 ∧ r.2.2.2.2 = 0)) :
    appendM C.J C.D r = .ok ({ C.J with held := C.J.held ++ [(C.J.hd.gen, setSeq r C.J.next)] }, C.D.put (posM C.J.ring C.J.next) (sectorM (bodyM C.J.hd.gen (setSeq r C.J.next)))) := by
  unfold appendM
  have h1 := I.J.hdr
  have h2 := I.J.bound
  rw [if_neg hn, if_pos]
  refine ⟨⟨?_, hr⟩, by omega⟩
  show 1 ≤ C.J.next ∧ C.J.next ≤ widest
  unfold Jrn.next
  omega
theorem CInv.begin {C : Crd} {B : Int} (I : CInv C B) (hB : B + 4 ≤ widest) {n : Int} {l : List Cmd} {C' : Crd} (h : beginC C = .ok ((n, l), C')) :
    CInv C' (B + 2) ∧ n = C.last + 1 ∧ C'.last = n ∧ C'.ch = C.ch ∧ C'.f = C.f ∧ C'.marked = C.marked ∧ C'.R.number = n ∧ C'.J.ring = C.J.ring ∧ C'.J.held.length = C.J.held.length + 1 ∧ C.R.number = 0 ∧ C.mem n ≠ [] ∧ l = (C.mem n).map (fun v => (1, v, n)) ∧
    (C'.R = { C.R with number := n, latest := n, marked := false, vols := C.mem n, phase := 1, ans := fun _ => false, left := 6 }) := by
  unfold beginC at h
  split at h
  · cases h
  rename_i h0
  split at h
  · cases h
  rename_i h1
  have h0 : C.R.number = 0 := Decidable.not_not.1 h0
  split at h
  · cases h
  rename_i J' D' ha
  cases h
  obtain ⟨Ja, e1, e2, e3⟩ := I.J.append ha
  have hw : widest = 1152921504606846975 := rfl
  have Jf := Ja.flush (by omega)
  have hl := I.last
  have hlen : J'.held.length = C.J.held.length + 1 := by rw [e3]; simp
  have hv : RightV (C.mem (C.last + 1)) := rightV_list (by rw [atM_length]; exact I.f4) h1
  have hm : C.mem (C.last + 1) ≠ [] := h1
  refine ⟨⟨Jf, I.f4, ?_, I.vols, I.srt, I.few, ?_, ⟨?_, ?_⟩, I.R.start hl.1 hv, ?_, ?_⟩, rfl, rfl, rfl, rfl, rfl, rfl, e2, hlen, h0, h1, ?_, rfl⟩
  · show (C.last + 1, C.ch) = knowAll C.f (J'.held.map Prod.snd)
    rw [e3, List.map_append, List.map_cons, List.map_nil, knowAll_snoc, ← I.know]
    show _ = knowM C.f (C.last, C.ch) (C.J.next, 2, 0, ⟨#[]⟩, C.last + 1)
    unfold knowM
    rw [if_pos rfl]
    show _ = (if C.last < C.last + 1 then C.last + 1 else C.last, C.ch)
    rw [if_pos (by omega)]
  · show lastM C.ch ≤ C.last + 1 + 1
    have := I.lastc
    omega
  · show 0 ≤ C.last + 1
    omega
  · show C.last + 1 ≤ (J'.held.length : Int)
    rw [hlen]; omega
  · exact I.full
  · show 0 ≤ C.marked ∧ C.marked ≤ C.last + 1
    have := I.marked
    omega
  · show tellL _ = _
    unfold tellL lacksM
    dsimp only [Rnd.fresh]
    rw [List.filter_eq_self.2 (fun x _ => (rfl : (!false) = true))]
theorem CInv.answer {C : Crd} {B : Int} (I : CInv C B) {c : Cmd} {l : List Cmd} {C' : Crd} (h : answerC C c = .ok (l, C')) : CInv C' B ∧ C'.last = C.last ∧ C'.ch = C.ch ∧ C'.f = C.f ∧ C'.J = C.J ∧ C'.D = C.D := by
  unfold answerC at h
  split at h
  · cases h
  rename_i l' R' ha
  cases h
  have I2 := I.R.answer ha
  have hm := I.marked
  have hd := I2.nat
  refine ⟨⟨I.J, I.f4, I.know, I.vols, I.srt, I.few, I.lastc, I.last, I2, ?_, ?_⟩, rfl, rfl, rfl, rfl, rfl⟩
  · intro hc
    show (if R'.complete = true then R'.done else C.marked) = R'.done
    rw [if_pos hc]
  · show 0 ≤ (if R'.complete = true then R'.done else C.marked) ∧ (if R'.complete = true then R'.done else C.marked) ≤ C.last
    split
    · omega
    · exact hm
theorem tickR_done (R : Rnd) : (tickR R).2.complete = R.complete ∧ (tickR R).2.done = R.done ∧ (tickR R).2.number = R.number := by
  unfold tickR
  split
  · exact ⟨rfl, rfl, rfl⟩
  split
  · exact ⟨rfl, rfl, rfl⟩
  split
  · exact ⟨rfl, rfl, rfl⟩
  · exact ⟨rfl, rfl, rfl⟩
theorem CInv.tick {C : Crd} {B : Int} (I : CInv C B) : CInv (tickC C).2 B := by
  obtain ⟨h1, h2, _⟩ := tickR_done C.R
  refine ⟨I.J, I.f4, I.know, I.vols, I.srt, I.few, I.lastc, I.last, I.R.tick, ?_, I.marked⟩
  intro hc
  show C.marked = (tickR C.R).2.done
  rw [h2]
  exact I.full (h1 ▸ hc)
theorem CInv.change {C : Crd} {B : Int} (I : CInv C B) (hB : B + 4 ≤ widest) {v : Int} {inn : Bool} {C' : Crd} (h : changeC C v inn = .ok C') :
    CInv C' (B + 2) ∧ C'.last = C.last ∧ C'.f = C.f ∧ C'.R = C.R ∧ C'.marked = C.marked ∧ putM C.f C.ch (C.last + 1, v, !inn) = none ∧ C'.ch = C.ch ++ [(C.last + 1, v, !inn)] ∧ C'.J.ring = C.J.ring ∧ C'.J.held.length = C.J.held.length + 1 := by
  unfold changeC at h
  split at h
  · cases h
  split at h
  · cases h
  rename_i hp
  split at h
  · cases h
  rename_i J' D' ha
  cases h
  obtain ⟨Ja, e1, e2, e3⟩ := I.J.append ha
  have hw : widest = 1152921504606846975 := rfl
  have Jf := Ja.flush (by omega)
  have hl := I.last
  have hlen : J'.held.length = C.J.held.length + 1 := by rw [e3]; simp
  obtain ⟨p1, p2, p3, p4, p5⟩ := put_none hp
  have hch : putCh C.f C.ch (C.last + 1, v, !inn) = C.ch ++ [(C.last + 1, v, !inn)] := by unfold putCh; rw [hp]
  refine ⟨⟨Jf, I.f4, ?_, ?_, ?_, ?_, ?_, ⟨hl.1, ?_⟩, I.R, I.full, I.marked⟩, rfl, rfl, rfl, rfl, hp, rfl, e2, hlen⟩
  · show (C.last, C.ch ++ [(C.last + 1, v, !inn)]) = knowAll C.f (J'.held.map Prod.snd)
    rw [e3, List.map_append, List.map_cons, List.map_nil, knowAll_snoc, ← I.know]
    show _ = knowM C.f (C.last, C.ch) (C.J.next, 1, v, if inn = true then plusB else minusB, 0)
    unfold knowM
    rw [if_neg (show ¬ (1 : Int) = 2 by decide)]
    cases inn with
    | true =>
      show _ = (if plusB = plusB ∨ plusB = minusB then (C.last, putCh C.f C.ch (C.last + 1, v, decide (plusB ≠ plusB))) else (C.last, C.ch))
      rw [if_pos (.inl rfl), decide_eq_false (not_not_intro rfl)]
      exact congrArg _ hch.symm
    | false =>
      show _ = (if minusB = plusB ∨ minusB = minusB then (C.last, putCh C.f C.ch (C.last + 1, v, decide (minusB ≠ plusB))) else (C.last, C.ch))
      rw [if_pos (.inr rfl), show decide (minusB ≠ plusB) = true by decide]
      exact congrArg _ hch.symm
  · intro x hx
    rcases List.mem_append.1 hx with hx | hx
    · exact I.vols x hx
    · rw [List.mem_singleton.1 hx]; exact p1
  · exact hch ▸ srt_put I.srt
  · show (C.ch ++ [_]).length ≤ 100
    rw [List.length_append]
    show C.ch.length + 1 ≤ 100
    omega
  · show lastM (C.ch ++ [_]) ≤ C.last + 1
    rw [lastM_snoc]
    exact Int.le_refl _
  · show C.last ≤ (J'.held.length : Int)
    rw [hlen]; omega
/-- BEHIND A CRASH: all but the round -/
theorem CInv.crash {C : Crd} {B : Int} (I : CInv C B) (hB : B + 4 ≤ widest) (keep : Int) :
    ∃ J' D', openM (C.D.crash keep) C.J.ring = .ok (J', D') ∧ J'.ring = C.J.ring ∧ J'.held = C.J.held ∧ startC C.f J' D' = { C with J := J', D := D', R := rnd0, marked := 0 } ∧ CInv (startC C.f J' D') (B + 2) := by
  obtain ⟨p, p1, p2, _, ho, Ic⟩ := I.J.crash (by omega) (keeps keep)
  have hp : p = C.J.held.length := by omega
  subst hp
  rw [List.take_length] at ho Ic
  refine ⟨_, _, ho, rfl, rfl, ?_, ?_⟩
  · unfold startC
    dsimp only
    rw [← I.know]
  · unfold startC
    dsimp only
    rw [← I.know]
    have hl := I.last
    exact ⟨Ic, I.f4, I.know, I.vols, I.srt, I.few, I.lastc, hl, RI.zero hl.1, (fun h => nomatch h), (by decide : (0 : Int) ≤ 0), hl.1⟩
/-- a coordinator of an empty disk -/
theorem CInv.fresh {n ring : Nat} (h1 : 1 ≤ ring) (h2 : ring ≤ 512) (h3 : 2 + ring ≤ n) (h4 : n ≤ 1024) {l : List Int} {f : List Bool} (hf : newM l f0 = .ok f) :
    ∃ J D, openM (Dsk.new n) ring = .ok (J, D) ∧ J.ring = ring ∧ J.held = [] ∧ openC (Dsk.new n) ring l = .ok ⟨J, D, f, [], rnd0, 0, 0⟩ ∧ startC f J D = ⟨J, D, f, [], rnd0, 0, 0⟩ ∧ CInv ⟨J, D, f, [], rnd0, 0, 0⟩ 3 := by
  obtain ⟨ho, I⟩ := JInv.fresh h1 h2 h3 h4
  refine ⟨_, _, ho, rfl, rfl, ?_, rfl, ?_⟩
  · unfold openC
    rw [hf]
    dsimp only
    rw [ho]
    rfl
  · exact ⟨I, newM_length hf, rfl, (fun _ h => nomatch h), (fun _ h => nomatch h), Nat.zero_le _, (by decide : (0 : Int) ≤ 1), (by decide : (0 : Int) ≤ 0 ∧ (0 : Int) ≤ 0), RI.zero (Int.le_refl _), (fun h => nomatch h), (by decide : (0 : Int) ≤ 0 ∧ (0 : Int) ≤ 0)⟩
/-- who belonged at a round that was begun, and at its change, stays -/
theorem CInv.stays {C C' : Crd} {v : Int} {inn : Bool} (hf : C'.f = C.f) (hc : C'.ch = C.ch ∨ C'.ch = C.ch ++ [(C.last + 1, v, inn)]) {k : Int} (hk : k ≤ C.last) : C'.mem k = C.mem k := by
  unfold Crd.mem
  rw [hf]
  rcases hc with hc | hc
  · rw [hc]
  · rw [hc, atM_low (.inl (by dsimp only; omega))]
end Go.Proofs.YtacgheafbkfciabGreatDoor
/- Contracts of functions of the given program, and plain laws on what they compute: parts of the proofs of laws. -/

namespace Go.Proofs.YtacgheafbkfciabGreatDoor
open Go Go.GL

/-! a group in memory -/
def grp (g : Nat) (f : List Bool) (ch : List Ch) : Assn := exA (fun x : Option Addr × Nat => grpL g x.1 ch.length x.2 f ch)
theorem up_grp (g : Nat) (f : List Bool) (ch : List Ch) : Up (grp g f ch) := up_exA _
theorem grp_R {g : Nat} {f : List Bool} {ch : List Ch} {x : Option Addr × Nat} {h : Hp} (s : stars (grpL g x.1 ch.length x.2 f ch) h) : grpR g x.1 x.2 f ch h ∧ ch.length ≤ x.2 :=
  ⟨(Ent.and (Ent.whole (List.Mem.head _)) (Ent.own (List.Mem.tail _ (List.Mem.head _)))) h s, Ent.ownLe (List.Mem.tail _ (List.Mem.head _)) h s⟩
theorem gat_rt (g : Nat) (f : List Bool) (ch : List Ch) (m : Int) (hf : f.length = 4) (hv : Vols ch) (hs : ch.length ≤ 100) :
    RT G 17 [.pointer (some ⟨g, 0, none⟩), .int .i64 m] (grp g f ch) (Ints (listM (atM m f ch))) := by
  refine RT.ofEx (R := fun x : Option Addr × Nat => stars (grpL g x.1 ch.length x.2 f ch)) (at_ok g none ch.length f ch m hf hv (Nat.le_refl _) (by omega)).enters (fun _ => up_stars _) (fun x h s => ?_)
  have H := at_ok g x.1 x.2 f ch m hf hv (grp_R s).2 (by omega)
  exact ⟨H.enters, fun M w he hw => H.calls M w (fun k s => (grp_R (he k s)).1) hw⟩
theorem glast_ro (g : Nat) (f : List Bool) (ch : List Ch) (hf : f.length = 4) (hs : ch.length ≤ 100) :
    RO G 81 [.pointer (some ⟨g, 0, none⟩)] (grp g f ch) (.int .i64 (lastM ch)) := by
  refine RO.ofEx (R := fun x : Option Addr × Nat => stars (grpL g x.1 ch.length x.2 f ch)) (last_ro g none ch.length f ch hf (by omega)).enters (fun x h s => ?_)
  have H := last_ro g x.1 x.2 f ch hf (by omega)
  exact ⟨H.enters, fun w hw => H.calls w (grp_R hw).1⟩
def PutG (g : Nat) (f : List Bool) (ch : List Ch) (c : Ch) (v : Value) (M : List Assn) : Prop := match putM f ch c with
  | some code => ∃ E, Fault member c.2.1 code v E ∧ M = E ++ [grp g f ch]
  | none => v = .nilIface ∧ M = [grp g f (ch ++ [c])]
theorem PutPost.g {g : Nat} {a : Option Addr} {cap : Nat} {f : List Bool} {ch : List Ch} {c : Ch} {v : Value} {M : List Assn} (h : PutPost g a cap f ch c v M) : ∃ M', PutG g f ch c v M' ∧ Imp M M' := by
  unfold PutPost at h
  unfold PutG
  cases hp : putM f ch c with
  | some code =>
    rw [hp] at h
    obtain ⟨E, h1, rfl⟩ := h
    refine ⟨_, ⟨E, h1, rfl⟩, Imp.appL ?_ _⟩
    exact Imp.trans (by rw [List.append_nil]; exact Imp.refl _) (Imp.fold (Ls := fun x : Option Addr × Nat => grpL g x.1 ch.length x.2 f ch) (a, cap) (M := []))
  | none =>
    rw [hp] at h
    obtain ⟨rfl, a', cap', rfl⟩ := h
    refine ⟨_, ⟨rfl, rfl⟩, ?_⟩
    have := Imp.fold (Ls := fun x : Option Addr × Nat => grpL g x.1 (ch ++ [c]).length x.2 f (ch ++ [c])) (a', cap') (M := [])
    rw [List.append_nil] at this
    unfold grp
    simp only [List.length_append, List.length_cons, List.length_nil, Nat.zero_add] at this ⊢
    exact this
theorem gadd_ok (g : Nat) (f : List Bool) (ch : List Ch) (v m : Int) (hf : f.length = 4) (hv : Vols ch) (hs : ch.length ≤ 100) :
    Triple G 50 [.pointer (some ⟨g, 0, none⟩), .int .i64 v, .int .i64 m] [grp g f ch] (PutG g f ch (m, v, false)) :=
  Triple.ofEx (add_ok g none 0 f ch v m hf hv hs).enters fun x _ _ => ((add_ok g x.1 x.2 f ch v m hf hv hs).mono fun _ _ h => h.g).pre (by rw [List.append_nil]; exact Imp.refl _)
theorem gremove_ok (g : Nat) (f : List Bool) (ch : List Ch) (v m : Int) (hf : f.length = 4) (hv : Vols ch) (hs : ch.length ≤ 100) :
    Triple G 51 [.pointer (some ⟨g, 0, none⟩), .int .i64 v, .int .i64 m] [grp g f ch] (PutG g f ch (m, v, true)) :=
  Triple.ofEx (remove_ok g none 0 f ch v m hf hv hs).enters fun x _ _ => ((remove_ok g x.1 x.2 f ch v m hf hv hs).mono fun _ _ h => h.g).pre (by rw [List.append_nil]; exact Imp.refl _)
/-! a coordinator in memory -/
abbrev Fst := Option Addr × Nat × Nat
def restC (last marked : Int) (q : Nat) (ring : Int) (j : Value) (fv : Fst) (g : Nat) : List Value := [.int .i64 last, .int .i64 marked, .pointer (some ⟨q, 0, none⟩), .int .i64 ring, j, .slice fv.1 fv.2.1 fv.2.2, .pointer (some ⟨g, 0, none⟩)]
abbrev ndT : TypeId := 58
theorem cwrong_nil (at_ : Int) : RO G 16 [.int .i64 at_, .nilIface] (fun _ => True) .nilIface := by
  refine RO.enter Tryz.func16 rfl (by decide) rfl Tryz.ntmps16 rfl (fun A hu hA => ?_) (fun _ _ _ h => h)
  repeat (first | refine GO ?_ | refine NW fun _ => ?_)
  refine WL.step rfl (OP.callRO rfl rfl (wrap_nil coordT at_) (fun _ _ => trivial) rfl rfl ?_)
  repeat (first | refine GO ?_ | refine NW fun _ => ?_)
  exact ret1 rfl ⟨rfl, MM⟩
set_option maxRecDepth 10000 in
theorem cwrong_ok (at_ : Int) (ch : Chain) (c : Int) (h : ¬ (ch = [] ∧ c = 0)) : Triple G 16 [.int .i64 at_, valOf ch c] [chainR ch c] (IsEr (some ((coordT, at_) :: ch.map Prod.snd, c))) := by
  refine Triple.enter Tryz.func16 rfl (by decide) rfl Tryz.ntmps16 rfl (fun F => ?_)
  repeat (first | refine GO ?_ | refine NW fun _ => ?_)
  refine WL.step rfl (OP.call (pre := [chainR ch c]) rfl rfl (wrapC_ok coordT at_ ch c h) PS rfl rfl ?_)
  intro v M hM
  repeat (first | refine GO ?_ | refine NW fun _ => ?_)
  exact ret1 rfl ⟨M, hM, Imp.refl _⟩
set_option maxRecDepth 10000 in
theorem cdown_nil : RO G 15 [.pointer none] (fun _ => True) (.bool true) := by
  refine RO.enter Tryz.func15 rfl (by decide) rfl Tryz.ntmps15 rfl (fun A hu hA => ?_) (fun _ _ _ h => h)
  repeat (first | refine GO ?_ | refine NW fun _ => ?_)
  exact ret1 rfl ⟨rfl, MM⟩
set_option maxRecDepth 10000 in
theorem cdown_ro (p : Nat) (R : Rnd) (last marked : Int) (q : Nat) (ring : Int) (j : Nat) (fv : Fst) (g : Nat) : RO G 15 [.pointer (some ⟨p, 0, none⟩)] (rnd p ndT (restC last marked q ring (.pointer (some ⟨j, 0, none⟩)) fv g) R) (.bool false) := by
  refine RO.enterEx Tryz.func15 rfl (by decide) rfl Tryz.ntmps15 rfl (fun x A hu hA => ?_)
  have hB : ∀ {L}, A ∈ L → Ent L (cellsAt p 0 (rndC R x ++ restC last marked q ring (.pointer (some ⟨j, 0, none⟩)) fv g)) := fun m => Ent.of hu hA m (Ent.whole (List.Mem.head _))
  repeat (first | refine GO ?_ | refine NW fun _ => ?_)
  refine WL.guardT rfl rfl rfl rfl (OP.load1 (v := .pointer (some ⟨j, 0, none⟩)) rfl rfl rfl rfl (Ent.one (i := 13) (hB MM) rfl) rfl rfl ?_)
  repeat (first | refine GO ?_ | refine NW fun _ => ?_)
  exact ret1 rfl ⟨rfl, MM⟩
def ChgG (p : Nat) (R : Rnd) (last marked : Int) (q : Nat) (ring : Int) (j : Value) (fv : Fst) (g : Nat) (f : List Bool) (ch : List Ch) (c : Ch) (v : Value) (M : List Assn) : Prop := ∃ M', PutG g f ch c v M' ∧ M = M' ++ [rnd p ndT (restC last marked q ring j fv g) R]
set_option maxHeartbeats 4000000 in
set_option maxRecDepth 10000 in
theorem cchange_ok (p : Nat) (R : Rnd) (last marked : Int) (q : Nat) (ring : Int) (j : Value) (fv : Fst) (g : Nat) (f : List Bool) (ch : List Ch) (vol : Int) (inn : Bool) (hf : f.length = 4) (hv : Vols ch) (hs : ch.length ≤ 100) (hl : 0 ≤ last ∧ last ≤ 1152921504606846975) :
    Triple G 28 [.pointer (some ⟨p, 0, none⟩), .int .i64 vol, .bool inn] [rnd p ndT (restC last marked q ring j fv g) R, grp g f ch] (ChgG p R last marked q ring j fv g f ch (last + 1, vol, !inn)) := by
  refine Triple.enter Tryz.func28 rfl (by decide) rfl Tryz.ntmps28 rfl (fun F => ?_)
  have h1 := gadd_ok g f ch vol (last + 1) hf hv hs
  have h2 := gremove_ok g f ch vol (last + 1) hf hv hs
  refine WC.open (M := [grp g f ch, F]) (Ls := rndL p ndT (restC last marked q ring j fv g) R) II (fun x => ?_)
  have hback := fun (N : List Assn) => rndFold p ndT (restC last marked q ring j fv g) R x (N := N)
  unfold rndL
  unfold rndC restC at *
  dsimp only [List.cons_append, List.nil_append] at *
  cases inn with
  | true =>
    repeat (first | refine GD ?_ | refine NW fun _ => ?_)
    refine RD 11 13 (_) ?_
    refine WP 0 ?_
    refine WP 1 ?_
    refine WP 2 ?_
    refine VV 3 ?_
    refine WP 4 ?_
    refine WP 5 ?_
    refine WP 6 ?_
    refine WP 7 ?_
    refine WP 8 ?_
    refine VV 9 ?_
    refine WP 10 ?_
    refine WH.only 11 rfl rfl (by kernel_rfl) rfl (OP.call (pre := [grp g f ch]) rfl rfl h1 PS rfl rfl (fun v M hM => ⟨(fun h => nomatch h), ?_⟩))
    refine WP 12 ?_
    refine DN ?_
    repeat (first | refine GD ?_ | refine NW fun _ => ?_)
    refine ret1 rfl ⟨M ++ [rnd p ndT (restC last marked q ring j fv g) R], ⟨M, hM, rfl⟩, ?_⟩
    rw [List.append_assoc]
    exact Imp.appL (Imp.trans (hback [F]) II) _
  | false =>
    repeat (first | refine GD ?_ | refine NW fun _ => ?_)
    refine RD 11 13 (_) ?_
    refine WP 0 ?_
    refine WP 1 ?_
    refine WP 2 ?_
    refine VV 3 ?_
    refine WP 4 ?_
    refine WP 5 ?_
    refine WP 6 ?_
    refine WP 7 ?_
    refine WP 8 ?_
    refine VV 9 ?_
    refine WP 10 ?_
    refine WH.only 11 rfl rfl (by kernel_rfl) rfl (OP.call (pre := [grp g f ch]) rfl rfl h2 PS rfl rfl (fun v M hM => ⟨(fun h => nomatch h), ?_⟩))
    refine WP 12 ?_
    refine DN ?_
    repeat (first | refine GD ?_ | refine NW fun _ => ?_)
    refine ret1 rfl ⟨M ++ [rnd p ndT (restC last marked q ring j fv g) R], ⟨M, hM, rfl⟩, ?_⟩
    rw [List.append_assoc]
    exact Imp.appL (Imp.trans (hback [F]) II) _
end Go.Proofs.YtacgheafbkfciabGreatDoor
/- Contracts of functions of the given program, and plain laws on what they compute: parts of the proofs of laws. -/

namespace Go.Proofs.YtacgheafbkfciabGreatDoor
open Go Go.GL

theorem knowM_inv {f : List Bool} {s : Int × List Ch} {r : Rec} (h : 0 ≤ s.1 ∧ s.1 ≤ widest) (hr : RightR r) (hv : Vols s.2) (hs : s.2.length ≤ 100) :
    (0 ≤ (knowM f s r).1 ∧ (knowM f s r).1 ≤ widest) ∧ Vols (knowM f s r).2 ∧ (knowM f s r).2.length ≤ 100 := by
  unfold knowM
  split
  · rename_i hk
    have hn : r.2.2.2.2 ≤ widest := by
      rcases hr.2 with h | h
      · exact h.2.1.2
      · omega
    refine ⟨?_, hv, hs⟩
    dsimp only
    split <;> omega
  · split
    · exact ⟨h, putCh_inv hv hs⟩
    · exact ⟨h, hv, hs⟩
theorem putCh_g {g : Nat} {f : List Bool} {ch : List Ch} {c : Ch} {v : Value} {M : List Assn} (h : PutG g f ch c v M) : ∃ E, M = E ++ [grp g f (putCh f ch c)] := by
  unfold PutG at h
  unfold putCh
  cases hp : putM f ch c with
  | some code =>
    rw [hp] at h
    obtain ⟨E, _, rfl⟩ := h
    exact ⟨E, rfl⟩
  | none =>
    rw [hp] at h
    exact ⟨[], h.2⟩
set_option maxHeartbeats 4000000 in
set_option maxRecDepth 10000 in
theorem cknow_ok (p : Nat) (R : Rnd) (last marked : Int) (q : Nat) (ring : Int) (j : Value) (fv : Fst) (g : Nat) (f : List Bool) (ch : List Ch) (r : Rec) (hf : f.length = 4) (hv : Vols ch) (hs : ch.length ≤ 100) (hl : 0 ≤ last ∧ last ≤ widest) :
    Triple G 56 [.pointer (some ⟨p, 0, none⟩), .agg (encR r).toArray] [rnd p ndT (restC last marked q ring j fv g) R, grp g f ch]
      (fun v M => v = .tuple #[] ∧ M = [rnd p ndT (restC (knowM f (last, ch) r).1 marked q ring j fv g) R, grp g f (knowM f (last, ch) r).2]) := by
  refine Triple.enter Tryz.func56 rfl (by decide) rfl Tryz.ntmps56 rfl (fun F => ?_)
  have hw : widest = 1152921504606846975 := rfl
  obtain ⟨seq, kind, block, data, num⟩ := r
  have hdef : knowM f (last, ch) (seq, kind, block, data, num) = if kind = 2 then (if last < num then num else last, ch)
    else if data = plusB ∨ data = minusB then (last, putCh f ch (last + 1, block, decide (data ≠ plusB))) else (last, ch) := rfl
  rw [show encR (seq, kind, block, data, num) = [.int .i64 seq, .int .i64 kind, .int .i64 block, .string data, .int .i64 num] from rfl]
  have hch := fun b => cchange_ok p R last marked q ring j fv g f ch block b hf hv hs ⟨hl.1, by omega⟩
  by_cases h2 : kind = 2
  · rw [if_pos h2] at hdef
    rw [hdef]
    refine WC.open (M := [grp g f ch, F]) (Ls := rndL p ndT (restC last marked q ring j fv g) R) II (fun x => ?_)
    have hback := fun (l : Int) (N : List Assn) => rndFold p ndT (restC l marked q ring j fv g) R x (N := N)
    unfold rndL
    unfold rndC restC at *
    dsimp only [List.cons_append, List.nil_append] at *
    repeat (first | refine GD ?_ | refine NW fun _ => ?_)
    rename_i bc
    refine RD 12 13 (_) ?_
    refine WP 0 ?_
    refine WP 1 ?_
    refine WP 2 ?_
    refine WP 3 ?_
    refine WP 4 ?_
    refine VV 5 ?_
    refine WP 6 ?_
    refine VV 7 ?_
    refine WP 8 ?_
    refine WP 9 ?_
    refine WP 10 ?_
    refine WP 11 ?_
    refine WH.only 12 rfl rfl (by kernel_rfl) rfl (OP.store rfl rfl rfl rfl rfl rfl rfl UP rfl ⟨(fun h => nomatch h), ?_⟩)
    refine DN ?_
    repeat (first | refine GD ?_ | refine NW fun _ => ?_)
    refine ret0n ⟨[rnd p ndT _ R, grp g f ch], ⟨rfl, rfl⟩, Imp.trans II (Imp.trans (hback (if last < num then num else last) [grp g f ch, F]) II)⟩
  rw [if_neg h2] at hdef
  by_cases hp : data = plusB
  · subst hp
    rw [if_pos (.inl rfl), show decide (plusB ≠ plusB) = !true from decide_eq_false (not_not_intro rfl)] at hdef
    rw [hdef]
    repeat (first | refine GD ?_ | refine NW fun _ => ?_)
    refine WL.step rfl (OP.call (pre := [rnd p ndT (restC last marked q ring j fv g) R, grp g f ch]) rfl rfl (hch true) PS rfl rfl ?_)
    rintro v _ ⟨M', hM, rfl⟩
    obtain ⟨E, rfl⟩ := putCh_g hM
    repeat (first | refine GD ?_ | refine NW fun _ => ?_)
    refine ret0n ⟨[rnd p ndT (restC last marked q ring j fv g) R, grp g f (putCh f ch (last + 1, block, !true))], ⟨rfl, rfl⟩, ?_⟩
    rw [List.append_assoc, List.append_assoc]
    exact Imp.trans (Imp.dropL E _) II
  by_cases hm : data = minusB
  · subst hm
    rw [if_pos (.inr rfl), show decide (minusB ≠ plusB) = !false by decide] at hdef
    rw [hdef]
    repeat (first | refine GD ?_ | refine NW fun _ => ?_)
    refine WL.step rfl (OP.call (pre := [rnd p ndT (restC last marked q ring j fv g) R, grp g f ch]) rfl rfl (hch false) PS rfl rfl ?_)
    rintro v _ ⟨M', hM, rfl⟩
    obtain ⟨E, rfl⟩ := putCh_g hM
    repeat (first | refine GD ?_ | refine NW fun _ => ?_)
    refine ret0n ⟨[rnd p ndT (restC last marked q ring j fv g) R, grp g f (putCh f ch (last + 1, block, !false))], ⟨rfl, rfl⟩, ?_⟩
    rw [List.append_assoc, List.append_assoc]
    exact Imp.trans (Imp.dropL E _) II
  · rw [if_neg (by rintro (h | h); exact hp h; exact hm h)] at hdef
    rw [hdef]
    have hp' : ¬ data = ⟨#[43]⟩ := hp
    have hm' : ¬ data = ⟨#[45]⟩ := hm
    repeat (first | refine GD ?_ | refine NW fun _ => ?_)
    exact ret0n ⟨[rnd p ndT (restC last marked q ring j fv g) R, grp g f ch], ⟨rfl, rfl⟩, II⟩
end Go.Proofs.YtacgheafbkfciabGreatDoor
/- Contracts of functions of the given program, and plain laws on what they compute: parts of the proofs of laws. -/

namespace Go.Proofs.YtacgheafbkfciabGreatDoor
open Go Go.GL

abbrev grT : TypeId := 83
def crdL (p q g : Nat) (fv : Fst) (C : Crd) (j : Nat) : List Assn := [rnd p ndT (restC C.last C.marked q C.J.ring (.pointer (some ⟨j, 0, none⟩)) fv g) C.R, jrn j q C.J, grp g C.f C.ch]
def crdA (p q g : Nat) (fv : Fst) (C : Crd) : Assn := exA (crdL p q g fv C)
theorem up_crdA (p q g : Nat) (fv : Fst) (C : Crd) : Up (crdA p q g fv C) := up_exA _
theorem crdFold (p q g : Nat) (fv : Fst) (C : Crd) (j : Nat) {N : List Assn} : Imp (rnd p ndT (restC C.last C.marked q C.J.ring (.pointer (some ⟨j, 0, none⟩)) fv g) C.R :: jrn j q C.J :: grp g C.f C.ch :: N) (crdA p q g fv C :: N) := Imp.fold (Ls := crdL p q g fv C) j
theorem openM_ring {D : Dsk} {ring : Int} {J : Jrn} {D' : Dsk} (h : openM D ring = .ok (J, D')) : (J.ring : Int) = ring ∧ 1 ≤ ring := by
  unfold openM at h
  split at h
  · cases h
  · split at h
    · cases h
    · cases h
      dsimp only
      omega
set_option maxHeartbeats 8000000 in
set_option maxRecDepth 10000 in
theorem cstart_ok (p q g : Nat) (R0 : Rnd) (x0 : RHd) (l0 m0 : Int) (ring : Int) (jv : Value) (fv : Fst) (fb : List Bool) (a0 : Option Addr) (n0 c0 : Nat) (D : Dsk) (V : Assn) (hV : Up V) (fl : List Int) (f : List Bool)
    (hr : ∀ h, V h → readS fv.1 fv.2.1 1 (fl.map vI) h) (hn : fv.2.1 < 1000000) (hfl : newM fl f0 = .ok f) (hfb : fb.length = 4) (hD : D.ok) (hw : D.W.length < 10000) (hr64 : -9223372036854775808 ≤ ring ∧ ring ≤ 9223372036854775807)
    {J : Jrn} {D' : Dsk} (ho : openM D ring = .ok (J, D')) (hJ : J.rng) (hR : ∀ x ∈ J.held, RightR x.2) :
    Triple G 30 [.pointer (some ⟨p, 0, none⟩)] [blk p (rndC R0 x0 ++ restC l0 m0 q ring jv fv g) ndT, blk g (bools fb ++ [.slice a0 n0 c0]) grT, dsk q D, V]
      (fun v M => v = .nilIface ∧ M = [crdA p q g fv (startC f J D'), dsk q D', V]) := by
  refine Triple.enter Tryz.func30 rfl (by decide) rfl Tryz.ntmps30 rfl (fun F => ?_)
  have hE : ∀ {L}, V ∈ L → Ent L (readS fv.1 fv.2.1 1 (fl.map vI)) := fun m => Ent.mem m hV hr
  have hop := jopen_ok q D ring hD hw hr64
  unfold OpenJ at hop
  rw [ho] at hop
  obtain ⟨hring, _⟩ := openM_ring ho
  have hf4 : f.length = 4 := newM_length hfl
  obtain ⟨b0, b1, b2, b3, rfl⟩ := four hfb
  obtain ⟨g0, g1, g2, g3, hg⟩ := four hf4
  obtain ⟨fa, fn, fc⟩ := fv
  dsimp only at hE hn hr
  unfold rndC restC bools
  dsimp only [List.cons_append, List.nil_append, List.map_cons, List.map_nil]
  repeat (first | refine GD ?_ | refine NW fun _ => ?_)
  refine RD 8 14 (_) ?_
  refine WP 0 ?_
  refine WP 1 ?_
  refine WP 2 ?_
  refine VV 3 ?_
  refine WP 4 ?_
  refine WP 5 ?_
  refine WP 6 ?_
  refine VV 7 ?_
  refine WH.only 8 rfl rfl (by kernel_rfl) rfl (OP.call (pre := [dsk q D]) rfl rfl hop PS rfl rfl (fun v M hM => ?_))
  obtain ⟨j, rfl, rfl⟩ := hM
  refine ⟨(fun h => nomatch h), ?_⟩
  refine WP 9 ?_
  refine WP 10 ?_
  refine WP 11 ?_
  refine WP 12 ?_
  refine WP 13 ?_
  refine DN ?_
  repeat (first | refine GD ?_ | refine NW fun _ => ?_)
  refine WL.step rfl (OP.callRT rfl rfl (new_ok fa fn fc fl hn) (hE MM) rfl rfl ?_)
  intro v E hN
  unfold NewPost at hN
  rw [show newM fl [false, false, false, false] = .ok f from hfl, hg] at hN
  obtain ⟨pg, rfl, rfl⟩ := hN
  unfold bools
  dsimp only [List.cons_append, List.nil_append, List.map_cons, List.map_nil]
  repeat (first | refine GD ?_ | refine NW fun _ => ?_)
  refine RD 8 9 (_) ?_
  refine WP 0 ?_
  refine WP 1 ?_
  refine WP 2 ?_
  refine VV 3 ?_
  refine WP 4 ?_
  refine WP 5 ?_
  refine VV 6 ?_
  refine WP 7 ?_
  refine WH.only 8 rfl rfl (by kernel_rfl) rfl (OP.store rfl rfl rfl rfl rfl rfl rfl UP rfl ⟨(fun h => nomatch h), ?_⟩)
  refine DN ?_
  repeat (first | refine GD ?_ | refine NW fun _ => ?_)
  have hrec := jrecords_rt j q J hJ
  refine WL.imp (M := [rnd p ndT (restC 0 0 q ring (.pointer (some ⟨j, 0, none⟩)) (fa, fn, fc) g) rnd0, grp g f [], jrn j q J, dsk q D', V, F]) ?_ ?_
  · have e1 := rndFold p ndT (restC 0 0 q ring (.pointer (some ⟨j, 0, none⟩)) (fa, fn, fc) g) rnd0 (none, 0, none) (N := [grp g f [], jrn j q J, dsk q D', V, F])
    refine Imp.trans ?_ e1
    have e2 := Imp.fold (Ls := fun x : Option Addr × Nat => grpL g x.1 ([] : List Ch).length x.2 f []) (none, 0) (M := [jrn j q J, dsk q D', V, F])
    have e3 : Imp (ansO (fun _ => false) 0 none :: grpL g none ([] : List Ch).length 0 f [] ++ [jrn j q J, dsk q D', V, F]) (ansO (fun _ => false) 0 none :: grp g f [] :: [jrn j q J, dsk q D', V, F]) := Imp.cons e2
    refine Imp.trans ?_ (Imp.cons (Imp.cons e3))
    unfold grpL
    rw [hg]
    refine Imp.trans (Imp.nilS 3 1) (Imp.trans (Imp.nilS 85 3) ?_)
    refine Imp.trans (Imp.pureB (p := (∀ m : Int, (fun _ => false) m = false) ∧ (0 : Int) = 0) ⟨fun _ => rfl, rfl⟩) ?_
    exact II
  refine WL.step rfl (OP.callRT rfl rfl hrec (Ent.at (up_jrn _ _ _) MM) rfl rfl ?_)
  rintro _ _ ⟨ar, cr, rfl, rfl⟩
  have hlen := hJ.len
  have hrg := hJ.ring
  generalize hK : J.held = held at *
  have hkn : ∀ k, (0 ≤ (knowAll f ((held.map Prod.snd).take k)).1 ∧ (knowAll f ((held.map Prod.snd).take k)).1 ≤ widest) ∧ Vols (knowAll f ((held.map Prod.snd).take k)).2 ∧ (knowAll f ((held.map Prod.snd).take k)).2.length ≤ 100 := by
    intro k
    induction k with
    | zero => exact ⟨(by decide : (0 : Int) ≤ 0 ∧ (0 : Int) ≤ widest), (fun _ h => nomatch h), Nat.zero_le _⟩
    | succ k ih =>
      by_cases hk : k < (held.map Prod.snd).length
      · rw [← List.take_append_getElem hk, knowAll_snoc]
        refine knowM_inv ih.1 ?_ ih.2.1 ih.2.2
        rw [List.getElem_map]
        exact hR _ (List.getElem_mem _)
      · rw [List.take_of_length_le (by omega)] at ih ⊢
        exact ih
  repeat (first | refine GD ?_ | refine NW fun _ => ?_)
  refine WC.loop (σ := Nat) (fun k => k ≤ held.length)
    (fun k => [(0, .val (.pointer (some ⟨p, 0, none⟩))), (54, .val (.slice ar held.length cr)), (55, .val (.int .i64 held.length)), (56, .val (.int .i64 k))])
    (fun k => [rnd p ndT (restC (knowAll f ((held.map Prod.snd).take k)).1 0 q ring (.pointer (some ⟨j, 0, none⟩)) (fa, fn, fc) g) rnd0, grp g f (knowAll f ((held.map Prod.snd).take k)).2, ownS ar held.length cr 64 5 (held.flatMap (fun x => encR x.2)), jrn j q J, dsk q D', V, F]) (fun k => held.length - k) 0 (Nat.zero_le _) ⟨rfl, rfl, rfl, rfl, trivial⟩ II ?_
  intro k hk
  by_cases hlt : k < held.length
  rotate_left
  · have he : k = held.length := by omega
    subst he
    rw [List.take_of_length_le (by rw [List.length_map]; exact Nat.le_refl _)]
    repeat (first | refine GD ?_ | refine NW fun _ => ?_)
    refine ret1 rfl ⟨[crdA p q g (fa, fn, fc) (startC f J D'), dsk q D', V], ⟨rfl, rfl⟩, ?_⟩
    refine Imp.trans ?_ (crdFold p q g (fa, fn, fc) (startC f J D') j)
    unfold startC
    dsimp only
    rw [hK, hring]
    exact II
  refine WC.fact (Ent.some (Ent.own (a := ar) (n := held.length) (cap := cr) (T := 64) (size := 5) (cs := held.flatMap (fun x => encR x.2)) MM) (by omega)) ?_
  rintro ⟨b, off, rfl⟩
  have hkk := hkn k
  have hkl : k < (held.map Prod.snd).length := by rw [List.length_map]; exact hlt
  have hsn : knowAll f ((held.map Prod.snd).take (k + 1)) = knowM f (knowAll f ((held.map Prod.snd).take k)) (held[k]).2 := by
    rw [← List.take_append_getElem hkl, knowAll_snoc, List.getElem_map]
  generalize knowAll f ((held.map Prod.snd).take k) = ka at *
  obtain ⟨la, cha⟩ := ka
  dsimp only at hkk ⊢
  repeat (first | refine GD ?_ | refine NW fun _ => ?_)
  refine WL.step rfl (OP.loadA (l := encR held[k].2) rfl rfl rfl rfl (Ent.elA (f := fun x : Held => encR x.2) (fun _ => rfl) (Ent.own (T := 64) MM) hlt) rfl rfl rfl ?_)
  generalize held[k].2 = r at *
  obtain ⟨seq, kind, block, data, num⟩ := r
  have hkw := cknow_ok p rnd0 la 0 q ring (.pointer (some ⟨j, 0, none⟩)) (fa, fn, fc) g f cha (seq, kind, block, data, num) hf4 hkk.2.1 hkk.2.2 hkk.1
  rw [show encR (seq, kind, block, data, num) = [.int .i64 seq, .int .i64 kind, .int .i64 block, .string data, .int .i64 num] from rfl] at hkw ⊢
  repeat (first | refine GD ?_ | refine NW fun _ => ?_)
  refine WL.step rfl (OP.call (pre := [rnd p ndT (restC la 0 q ring (.pointer (some ⟨j, 0, none⟩)) (fa, fn, fc) g) rnd0, grp g f cha]) rfl rfl hkw PS rfl rfl ?_)
  rintro _ _ ⟨rfl, rfl⟩
  repeat (first | refine GD ?_ | refine NW fun _ => ?_)
  exact ⟨k + 1, hlt, by omega, ⟨rfl, rfl, rfl, rfl, trivial⟩, by rw [hsn]; exact II⟩
end Go.Proofs.YtacgheafbkfciabGreatDoor
/- Contracts of functions of the given program, and plain laws on what they compute: parts of the proofs of laws. -/

namespace Go.Proofs.YtacgheafbkfciabGreatDoor
open Go Go.GL

/-! power ends -/
theorem bit_u64 {t : Int} (h : 0 ≤ t ∧ t ≤ 18446744073709551615) {i : Nat} (hi : i < 64) : (bitsV .and .u64 (shrV .u64 t (i : Int)) 1 = 1) ↔ t.toNat.testBit i = true := by
  obtain ⟨n, rfl⟩ : ∃ n : Nat, t = n := ⟨t.toNat, by omega⟩
  have e : shrV .u64 (n : Int) (i : Int) = ((n / 2 ^ i : Nat) : Int) := by
    unfold shrV
    rw [Int.toNat_natCast, Nat.min_eq_left (by show i ≤ 64; omega), Int.fdiv_eq_ediv_of_nonneg _ (by exact Int.pow_nonneg (by decide)), Int.natCast_ediv, Int.natCast_pow]; rfl
  have hlt : n / 2 ^ i < 2 ^ 64 := Nat.lt_of_le_of_lt (Nat.div_le_self _ _) (by omega)
  rw [e, Int.toNat_natCast, Nat.testBit_eq_decide_div_mod_eq, decide_eq_true_eq]
  generalize n / 2 ^ i = m at *
  have h1 : (BitVec.ofInt 64 (m : Int)).toNat = m := by rw [BitVec.toNat_ofInt]; omega
  have h2 : (BitVec.ofInt 64 (m : Int) &&& BitVec.ofInt 64 1).toNat = m % 2 := by
    rw [BitVec.toNat_and, h1]; exact Nat.and_one_is_mod _
  show IntKind.u64.wrap ((BitVec.ofInt 64 (m : Int) &&& BitVec.ofInt 64 1).toNat : Int) = 1 ↔ _
  rw [h2, wrap_fit (k := .u64) (by unfold Fit; omega)]
  omega
set_option maxRecDepth 10000 in
theorem dcrash1_ro (c : Nat) (keep : Int) (hk : 0 ≤ keep ∧ keep < 18446744073709551616) (j : Nat) : RO G 53 [.int .i64 j, .pointer (some ⟨c, 0, none⟩)] (cellAt c 0 (.int .u64 keep)) (.bool (keeps keep j)) := by
  refine RO.enter Tryz.func53 rfl (by decide) rfl Tryz.ntmps53 rfl (fun A hu hA => ?_) (up_cellAt _ _ _)
  repeat (first | refine GO ?_ | refine NW fun _ => ?_)
  refine WL.step rfl (OP.load1 (v := .int .u64 keep) rfl rfl rfl rfl (Ent.mem MM hu hA) rfl rfl ?_)
  repeat (first | refine GO ?_ | refine NW fun _ => ?_)
  refine ret1 rfl ⟨?_, MM⟩
  have e : (decide (bitsV BinOp.and IntKind.u64 (shrV IntKind.u64 keep ((j : Int) % 64)) 1 = 1)) = keeps keep j := by
    have hb := bit_u64 (t := keep) (by omega) (show j % 64 < 64 by omega)
    rw [show ((j : Int) % 64) = ((j % 64 : Nat) : Int) by omega]
    unfold keeps
    cases hx : keep.toNat.testBit (j % 64)
    · exact decide_eq_false (fun h => by rw [hb.1 h] at hx; cases hx)
    · exact decide_eq_true (hb.2 hx)
  rw [e]
theorem Imp.blkC {b : Nat} {v : Value} {T : TypeId} {L : List Assn} : Imp (blk b [v] T :: L) (cellAt b 0 v :: L) :=
  fun _ s => stars_head_mono (fun h x => (Ent.blk (L := [blk b [v] T]) (List.Mem.head _) rfl) h ⟨h, Hp.empty, fun _ => .inr rfl, by funext b; simp [Hp.join, Hp.empty], x, trivial⟩) s
/-- a power's end: what is loose is kept, or not, as the number's bits tell -/
theorem dcrash_ok (p : Nat) (D : Dsk) (keep : Int) (hk : 0 ≤ keep ∧ keep < 18446744073709551616) (hD : D.ok) (hw : D.W.length < 1000000) : Triple G 29 [.pointer (some ⟨p, 0, none⟩), .int .u64 keep] [dsk p D] (fun v M => v = .tuple #[] ∧ M = [dsk p (D.crash keep)]) := by
  refine Triple.enter Tryz.func29 rfl (by decide) rfl Tryz.ntmps29 rfl (fun F => ?_)
  repeat (first | refine GO ?_ | refine NW fun _ => ?_)
  rename_i c
  refine WL.step rfl (OP.makeF rfl rfl rfl rfl ?_)
  repeat (first | refine GO ?_ | refine NW fun _ => ?_)
  refine WL.step rfl (OP.call (pre := [dsk p D, cellAt c 0 (.int .u64 keep)]) rfl rfl (dsettle_ok p D hD hw 53 [.pointer (some ⟨c, 0, none⟩)] (cellAt c 0 (.int .u64 keep)) (up_cellAt _ _ _) (keeps keep) (fun j _ => dcrash1_ro c keep hk j)) (Imp.blkC.trans PS) rfl rfl ?_)
  rintro _ _ ⟨rfl, rfl⟩
  repeat (first | refine GO ?_ | refine NW fun _ => ?_)
  exact ret0n ⟨_, ⟨rfl, rfl⟩, II⟩
end Go.Proofs.YtacgheafbkfciabGreatDoor
