/- Contracts of functions of the given program, and plain laws: parts of the proofs of laws. -/
import Derived.Test.YtleajkobmhhacaaGreatDoorZPQ4
import Derived.Test.YtleajkobmhhacaaGreatDoorZPQ8
/- Contracts of functions of the given program, and plain laws on what they compute: parts of the proofs of laws. -/

namespace Go.Proofs.YtleajkobmhhacaaGreatDoor
open Go Go.GL

/-! what is held is read -/
theorem Dsk.few_len {D : Dsk} (h : D.ok) : D.S.length ≤ 1024 := h.few
set_option maxHeartbeats 8000000 in
set_option maxRecDepth 10000 in
theorem jscan_ok (j p : Nat) (ring : Nat) (h : Hd) (D : Dsk) (hr : 1 ≤ ring ∧ ring ≤ 512) (hf : 0 ≤ h.first ∧ h.first ≤ 4611686018427387904) (hD : D.ok) (hl : 2 + ring ≤ D.S.length) (hw : D.W.length < 10000) (ht : 0 ≤ h.turn ∧ h.turn ≤ 4611686018427387904) (hg : 0 ≤ h.gen ∧ h.gen ≤ 4611686018427387904) :
    Triple G 201 [.pointer (some ⟨j, 0, none⟩)] [jrn j p ⟨ring, h, []⟩, dsk p D] (fun v M => v = .tuple #[] ∧ M = [jrn j p ⟨ring, h, scanM D ring h⟩, dsk p D]) := by
  refine Triple.enter Tryz.func201 rfl (by decide) rfl Tryz.ntmps201 rfl (fun F => ?_)
  refine WC.open P1 (fun x => ?_)
  unfold jrnL
  dsimp only [List.cons_append, List.nil_append]
  refine WC.scope ?_
  repeat (first | refine GO ?_ | refine NW fun _ => ?_)
  refine WC.label ?_
  repeat (first | refine GO ?_ | refine NW fun _ => ?_)
  refine WC.loop (σ := Nat × List Held × Int) (fun s => s.2.1.length + s.1 = ring ∧ scanF D ring h s.1 s.2.1 s.2.2 = scanM D ring h)
    (fun s => [(0, .val (.pointer (some ⟨j, 0, none⟩))), (2, .val (.int .i64 s.2.2))])
    (fun s => [jrn j p ⟨ring, h, s.2.1⟩, dsk p D, F]) (fun s => s.1) (ring, [], h.low) ⟨by simp, rfl⟩ ⟨rfl, rfl, trivial⟩ ?_ ?_
  · refine Imp.foldP (N := [dsk p D, F]) x ?_ (Imp.refl _)
    unfold jrnL
    exact (by repeat (first | exact Picks.nil _ | apply Picks.cons | exact Pick.here _ _ | apply Pick.there))
  rintro ⟨k, l, low⟩ ⟨hk, hs⟩
  dsimp only at hk hs ⊢
  refine WC.open P1 (fun x => ?_)
  unfold jrnL
  dsimp only [List.cons_append, List.nil_append]
  cases k with
  | zero =>
    have hout : scanM D ring h = l := hs.symm
    have hkl : ring = l.length := by omega
    repeat (first | refine GD ?_ | refine NW fun _ => ?_)
    refine RD 10 10 (_) ?_
    refine WP 0 ?_
    refine WP 1 ?_
    refine WP 2 ?_
    refine VV 3 ?_
    refine WP 4 ?_
    refine WP 5 ?_
    refine WP 6 ?_
    refine WP 7 ?_
    refine VV 8 ?_
    refine WP 9 ?_
    refine DN ?_
    rw [decide_eq_false (show ¬ (l.length : Int) < ring by omega)]
    repeat (first | refine GD ?_ | refine NW fun _ => ?_)
    repeat (first | refine blockK.hit rfl ?_ | refine blockK.miss rfl ?_ | refine seqK.exit ?_ | refine loopK.exit ?_ | refine scopeK.normal ?_)
    refine ret0n ⟨[jrn j p ⟨ring, h, scanM D ring h⟩, dsk p D], ⟨rfl, rfl⟩, ?_⟩
    rw [hout]
    exact Imp.trans II (jrnFold j p ⟨ring, h, l⟩ x)
  | succ k =>
    have hkl : l.length < ring := by omega
    repeat (first | refine GD ?_ | refine NW fun _ => ?_)
    refine RD 10 10 (_) ?_
    refine WP 0 ?_
    refine WP 1 ?_
    refine WP 2 ?_
    refine VV 3 ?_
    refine WP 4 ?_
    refine WP 5 ?_
    refine WP 6 ?_
    refine WP 7 ?_
    refine VV 8 ?_
    refine WP 9 ?_
    refine DN ?_
    rw [decide_eq_true (show (l.length : Int) < ring by omega)]
    have hJ : (⟨ring, h, l⟩ : Jrn).rng := ⟨hr, by dsimp only; omega, ht, hf, hg⟩
    have hnx : (⟨ring, h, l⟩ : Jrn).next = h.first + l.length := rfl
    have hpb := pos_bd hr.1 (h.first + l.length)
    have hfit : scanF D ring h (k + 1) l low = match fits (D.cur (posM ring (h.first + l.length))) (h.first + l.length) low h.gen with
      | some x => scanF D ring h k (l ++ [x]) x.1
      | none => l := rfl
    rw [hfit] at hs
    have h64 := Dsk.cur_64 hD (show posM ring (h.first + l.length) < D.S.length by omega)
    have hrd := dread_rt p D (posM ring (h.first + l.length)) hD (by omega)
    unfold DReadPost at hrd
    rw [Int.toNat_natCast] at hrd
    generalize hb : D.cur (posM ring (h.first + l.length)) = b at *
    have hdec := fun (q : Nat) => decode5_ok (some ⟨q, 0, none⟩) 64 64 b h64.symm (Nat.le_refl _) (by decide)
    have hEJ : ∀ {L : List Assn}, Imp L (jrnL j p ⟨ring, h, l⟩ x) → Ent L (jrn j p ⟨ring, h, l⟩) := fun i => Ent.exI x i
    repeat (first | refine GD ?_ | refine NW fun _ => ?_)
    refine WL.step rfl (OP.callRO rfl rfl (jnext_ro j p ⟨ring, h, l⟩ hJ) (hEJ (by unfold jrnL; exact II)) rfl rfl ?_)
    rw [hnx]
    repeat (first | refine GD ?_ | refine NW fun _ => ?_)
    refine RD 13 13 (_) ?_
    refine WP 0 ?_
    refine WP 1 ?_
    refine WP 2 ?_
    refine VV 3 ?_
    refine WP 4 ?_
    refine WP 5 ?_
    refine WH.only 6 rfl rfl (by kernel_rfl) rfl (OP.callRO rfl rfl (jat_ro j p ⟨ring, h, l⟩ hr (h.first + l.length) (by omega)) (hEJ (by unfold jrnL; exact II)) rfl rfl ⟨fun _ => II, ?_⟩)
    dsimp only
    refine WH.only 7 rfl rfl (by kernel_rfl) rfl (OP.callRT rfl rfl hrd (Ent.at (up_dsk p D) MM) rfl rfl (fun v E hE' => ?_))
    rw [if_pos (by omega)] at hE'
    obtain ⟨br, rfl, rfl⟩ := hE'
    refine ⟨fun _ => II, ?_⟩
    refine WP 8 ?_
    refine WP 9 ?_
    refine WP 10 ?_
    refine WP 11 ?_
    refine WP 12 ?_
    refine DN ?_
    repeat (first | refine GD ?_ | refine NW fun _ => ?_)
    refine WL.step rfl (OP.callRT rfl rfl (hdec br) (Ent.at (up_readS _ _ _ _) MM) rfl rfl ?_)
    rintro v E hDec
    unfold DecPost at hDec
    cases hq : decR b with
    | error c =>
      rw [hq] at hDec
      obtain ⟨e, rfl, b1, rfl, rfl⟩ := hDec
      have hfn : fits b (h.first + l.length) low h.gen = none := fits_none (fun x hx => by rw [hq] at hx; cases hx)
      rw [hfn] at hs
      have hout : scanM D ring h = l := hs.symm
      repeat (first | refine GD ?_ | refine NW fun _ => ?_)
      repeat (first | refine blockK.hit rfl ?_ | refine blockK.miss rfl ?_ | refine seqK.exit ?_ | refine loopK.exit ?_ | refine scopeK.normal ?_)
      refine ret0n ⟨[jrn j p ⟨ring, h, scanM D ring h⟩, dsk p D], ⟨rfl, rfl⟩, ?_⟩
      rw [hout]
      exact Imp.trans II (jrnFold j p ⟨ring, h, l⟩ x)
    | ok y =>
      obtain ⟨g, r⟩ := y
      rw [hq] at hDec
      obtain ⟨rfl, rfl⟩ := hDec
      by_cases h1 : r.1 = h.first + l.length
      rotate_left
      · have hfn : fits b (h.first + l.length) low h.gen = none := by unfold fits; rw [hq]; dsimp only; rw [if_neg (fun h => h1 h.1)]
        rw [hfn] at hs
        have hout : scanM D ring h = l := hs.symm
        repeat (first | refine GD ?_ | refine NW fun _ => ?_)
        repeat (first | refine blockK.hit rfl ?_ | refine blockK.miss rfl ?_ | refine seqK.exit ?_ | refine loopK.exit ?_ | refine scopeK.normal ?_)
        refine ret0n ⟨[jrn j p ⟨ring, h, scanM D ring h⟩, dsk p D], ⟨rfl, rfl⟩, ?_⟩
        rw [hout]
        exact Imp.trans II (jrnFold j p ⟨ring, h, l⟩ x)
      by_cases h2 : low ≤ g
      rotate_left
      · have hfn : fits b (h.first + l.length) low h.gen = none := by unfold fits; rw [hq]; dsimp only; rw [if_neg (fun h => h2 h.2.1)]
        rw [hfn] at hs
        have hout : scanM D ring h = l := hs.symm
        repeat (first | refine GD ?_ | refine NW fun _ => ?_)
        repeat (first | refine blockK.hit rfl ?_ | refine blockK.miss rfl ?_ | refine seqK.exit ?_ | refine loopK.exit ?_ | refine scopeK.normal ?_)
        refine ret0n ⟨[jrn j p ⟨ring, h, scanM D ring h⟩, dsk p D], ⟨rfl, rfl⟩, ?_⟩
        rw [hout]
        exact Imp.trans II (jrnFold j p ⟨ring, h, l⟩ x)
      by_cases h3 : g ≤ h.gen
      rotate_left
      · have hfn : fits b (h.first + l.length) low h.gen = none := by unfold fits; rw [hq]; dsimp only; rw [if_neg (fun h => h3 h.2.2)]
        rw [hfn] at hs
        have hout : scanM D ring h = l := hs.symm
        repeat (first | refine GD ?_ | refine NW fun _ => ?_)
        repeat (first | refine blockK.hit rfl ?_ | refine blockK.miss rfl ?_ | refine seqK.exit ?_ | refine loopK.exit ?_ | refine scopeK.normal ?_)
        refine ret0n ⟨[jrn j p ⟨ring, h, scanM D ring h⟩, dsk p D], ⟨rfl, rfl⟩, ?_⟩
        rw [hout]
        exact Imp.trans II (jrnFold j p ⟨ring, h, l⟩ x)
      have hfn : fits b (h.first + l.length) low h.gen = some (g, r) := by unfold fits; rw [hq]; dsimp only; rw [if_pos ⟨h1, h2, h3⟩]
      rw [hfn] at hs
      dsimp only at hs
      repeat (first | refine GD ?_ | refine NW fun _ => ?_)
      have hen : encR r = [.int .i64 r.1, .int .i64 r.2.1, .int .i64 r.2.2.1, .string r.2.2.2.1, .int .i64 r.2.2.2.2] := rfl
      refine RD 9 13 (_) ?_
      refine WP 0 ?_
      refine WP 1 ?_
      refine WP 2 ?_
      refine WP 3 ?_
      refine VV 4 ?_
      refine WP 5 ?_
      refine VL 6 (.agg (encR r).toArray) rfl rfl rfl rfl (.inr ⟨rfl, encR r, rfl, rfl, Ent.whole MM⟩) ?_
      refine WH.only 7 rfl rfl (by kernel_rfl) rfl (OP.buildT rfl rfl rfl rfl ⟨fun _ => II, ?_⟩)
      refine WH.only 8 rfl rfl (by kernel_rfl) rfl (OP.sliceLit (c := heldC (g, r)) rfl rfl rfl rfl rfl rfl rfl rfl (fun b2 => ⟨fun _ => II, ?_⟩))
      refine WH.only 9 rfl rfl (by kernel_rfl) rfl (OP.append rfl rfl rfl rfl rfl rfl rfl rfl rfl P1 (Ent.own MM) rfl (by omega) (by omega) rfl rfl (fun a' cap' => ⟨(fun h => nomatch h), ?_⟩))
      refine WP 10 ?_
      refine WP 11 ?_
      refine WH.only 12 rfl rfl (by kernel_rfl) rfl (OP.store rfl rfl rfl rfl rfl rfl rfl UP rfl ⟨(fun h => nomatch h), ?_⟩)
      refine DN ?_
      refine ⟨(k, l ++ [(g, r)], g), ⟨by simp; omega, hs⟩, Nat.lt_succ_self k, ⟨rfl, rfl, trivial⟩, ?_⟩
      dsimp only
      refine Imp.trans ?_ (jrnFold j p ⟨ring, h, l ++ [(g, r)]⟩ (a', cap'))
      dsimp only
      rw [List.length_append, List.flatMap_append, List.flatMap_cons, List.flatMap_nil, List.append_nil]
      exact II
end Go.Proofs.YtleajkobmhhacaaGreatDoor
/- Contracts of functions of the given program, and plain laws on what they compute: parts of the proofs of laws. -/

namespace Go.Proofs.YtleajkobmhhacaaGreatDoor
open Go Go.GL

def jrnT : ByteArray := ⟨#[106, 111, 117, 114, 110, 97, 108]⟩
theorem headOf_wide {b : List UInt8} {slot : Int} {h : Hd} (e : headOf b slot = some h) : (0 ≤ h.turn ∧ h.turn ≤ widest) ∧ (0 ≤ h.first ∧ h.first ≤ widest) ∧ (0 ≤ h.gen ∧ h.gen ≤ widest) := by
  unfold headOf at e
  split at e
  · simp only [Option.some.injEq] at e
    subst e
    unfold hd4
    exact ⟨numR_wide _, numR_wide _, numR_wide _⟩
  · cases e
theorem newestM_wide {a b : List UInt8} {h : Hd} (e : newestM a b = some h) : (0 ≤ h.turn ∧ h.turn ≤ widest) ∧ (0 ≤ h.first ∧ h.first ≤ widest) ∧ (0 ≤ h.gen ∧ h.gen ≤ widest) := by
  have hz : (0 ≤ hd0.turn ∧ hd0.turn ≤ widest) ∧ (0 ≤ hd0.first ∧ hd0.first ≤ widest) ∧ (0 ≤ hd0.gen ∧ hd0.gen ≤ widest) := by decide
  unfold newestM at e
  split at e
  · rename_i x y hx hy
    split at e
    · cases e; exact headOf_wide hy
    · cases e; exact headOf_wide hx
  · rename_i x hx hy; cases e; exact headOf_wide hx
  · rename_i y hx hy; cases e; exact headOf_wide hy
  · split at e
    · cases e; exact hz
    · cases e
theorem scanF_len (D : Dsk) (ring : Nat) (h : Hd) : ∀ (k : Nat) (l : List Held) (low : Int), (scanF D ring h k l low).length ≤ l.length + k
  | 0, l, low => Nat.le_refl _
  | k + 1, l, low => by
    rw [scanF]
    split
    · rename_i x hx
      have := scanF_len D ring h k (l ++ [x]) x.1
      simp at this ⊢
      omega
    · omega
theorem scanM_len (D : Dsk) (ring : Nat) (h : Hd) : (scanM D ring h).length ≤ ring := by
  have := scanF_len D ring h ring [] h.low
  simp only [List.length_nil, Nat.zero_add] at this
  exact this
def OpenJ (p : Nat) (D : Dsk) (ring : Int) (v : Value) (M : List Assn) : Prop := match openM D ring with
  | .ok (J, D') => ∃ j, v = .tuple #[.pointer (some ⟨j, 0, none⟩), .nilIface] ∧ M = [jrn j p J, dsk p D']
  | .error c => ∃ e E, IsEr (some ([(jrnT, ring)], c)) e E ∧ v = .tuple #[.pointer none, e] ∧ M = E ++ [dsk p D]
set_option maxHeartbeats 2000000 in
set_option maxRecDepth 10000 in
theorem jopen_ok (p : Nat) (D : Dsk) (ring : Int) (hD : D.ok) (hw : D.W.length < 10000) (hr64 : -9223372036854775808 ≤ ring ∧ ring ≤ 9223372036854775807) :
    Triple G 146 [.pointer (some ⟨p, 0, none⟩), .int .i64 ring] [dsk p D] (OpenJ p D ring) := by
  refine Triple.enter Tryz.func146 rfl (by decide) rfl Tryz.ntmps146 rfl (fun F => ?_)
  have hwd : widest = 1152921504606846975 := rfl
  have hfew := hD.few
  have hdef : openM D ring = if ring < 1 ∨ 512 < ring ∨ (D.S.length : Int) < 2 + ring then .error 1
    else match newestM (D.cur 0) (D.cur 1) with
    | none => .error 4
    | some h => .ok (⟨ring.toNat, { h with gen := h.gen + 1, turn := h.turn + 1 }, scanM D ring.toNat h⟩, saveM D { h with gen := h.gen + 1, turn := h.turn + 1 }) := rfl
  by_cases h1 : ring < 1
  · have hop : openM D ring = .error 1 := by rw [hdef, if_pos (.inl h1)]
    repeat (first | refine GD ?_ | refine NW fun _ => ?_)
    refine WL.step rfl (OP.call (pre := []) rfl rfl (wrap_ok jrnT ring 1 (by decide)) PS rfl rfl ?_)
    intro v M hF
    obtain ⟨M', h1, h2⟩ := hF.isEr
    repeat (first | refine GD ?_ | refine NW fun _ => ?_)
    refine ret2 rfl rfl ⟨M' ++ [dsk p D], ?_, ?_⟩
    · unfold OpenJ
      rw [hop]
      exact ⟨v, M', h1, rfl, rfl⟩
    · rw [List.append_assoc]
      exact (Imp.app h2 _).trans (Imp.appL II _)
  by_cases h2 : 512 < ring
  · have hop : openM D ring = .error 1 := by rw [hdef, if_pos (.inr (.inl h2))]
    repeat (first | refine GD ?_ | refine NW fun _ => ?_)
    refine WL.step rfl (OP.call (pre := []) rfl rfl (wrap_ok jrnT ring 1 (by decide)) PS rfl rfl ?_)
    intro v M hF
    obtain ⟨M', h1, h2⟩ := hF.isEr
    repeat (first | refine GD ?_ | refine NW fun _ => ?_)
    refine ret2 rfl rfl ⟨M' ++ [dsk p D], ?_, ?_⟩
    · unfold OpenJ
      rw [hop]
      exact ⟨v, M', h1, rfl, rfl⟩
    · rw [List.append_assoc]
      exact (Imp.app h2 _).trans (Imp.appL II _)
  repeat (first | refine GD ?_ | refine NW fun _ => ?_)
  refine WL.guardT rfl rfl rfl rfl (OP.callRO rfl rfl (dlen_ro p D) (Ent.at (up_dsk p D) MM) rfl rfl ?_)
  by_cases h3 : (D.S.length : Int) < 2 + ring
  · have hop : openM D ring = .error 1 := by rw [hdef, if_pos (.inr (.inr h3))]
    repeat (first | refine GD ?_ | refine NW fun _ => ?_)
    refine WL.step rfl (OP.call (pre := []) rfl rfl (wrap_ok jrnT ring 1 (by decide)) PS rfl rfl ?_)
    intro v M hF
    obtain ⟨M', h1, h2⟩ := hF.isEr
    repeat (first | refine GD ?_ | refine NW fun _ => ?_)
    refine ret2 rfl rfl ⟨M' ++ [dsk p D], ?_, ?_⟩
    · unfold OpenJ
      rw [hop]
      exact ⟨v, M', h1, rfl, rfl⟩
    · rw [List.append_assoc]
      exact (Imp.app h2 _).trans (Imp.appL II _)
  rw [if_neg (by omega)] at hdef
  have hnw := newest_rt p D hD (by omega) (by omega)
  repeat (first | refine GD ?_ | refine NW fun _ => ?_)
  refine WL.step rfl (OP.callRT rfl rfl hnw (Ent.at (up_dsk p D) MM) rfl rfl ?_)
  rintro v E ⟨hN, rfl⟩
  unfold NewHdP at hN
  cases hq : newestM (D.cur 0) (D.cur 1) with
  | none =>
    rw [hq] at hN hdef
    obtain ⟨h', rfl⟩ := hN
    have hop : openM D ring = .error 4 := hdef
    repeat (first | refine GD ?_ | refine NW fun _ => ?_)
    refine WL.step rfl (OP.call (pre := []) rfl rfl (wrap_ok jrnT ring 4 (by decide)) PS rfl rfl ?_)
    intro v M hF
    obtain ⟨M', h1, h2⟩ := hF.isEr
    repeat (first | refine GD ?_ | refine NW fun _ => ?_)
    refine ret2 rfl rfl ⟨M' ++ [dsk p D], ?_, ?_⟩
    · unfold OpenJ
      rw [hop]
      exact ⟨v, M', h1, rfl, rfl⟩
    · rw [List.append_assoc]
      exact (Imp.app h2 _).trans (Imp.appL II _)
  | some h =>
    rw [hq] at hN hdef
    obtain rfl := hN
    obtain ⟨⟨t1, t2⟩, ⟨f1, f2⟩, ⟨g1, g2⟩⟩ := newestM_wide hq
    obtain ⟨n, rfl⟩ : ∃ n : Nat, ring = n := ⟨ring.toNat, by omega⟩
    rw [Int.toNat_natCast] at hdef
    dsimp only at hdef
    have hsl := scanM_len D n h
    have hsc := fun j => jscan_ok j p n h D ⟨by omega, by omega⟩ ⟨f1, by omega⟩ hD (by omega) hw ⟨t1, by omega⟩ ⟨g1, by omega⟩
    repeat (first | refine GD ?_ | refine NW fun _ => ?_)
    rename_i j
    refine WL.imp (M := [jrn j p ⟨n, h, []⟩, dsk p D, F]) ((Imp.nilS 259 6).trans (Imp.trans II (jrnFold j p ⟨n, h, []⟩ (none, 0)))) ?_
    refine WL.step rfl (OP.call (pre := [jrn j p ⟨n, h, []⟩, dsk p D]) rfl rfl (hsc j) PS rfl rfl ?_)
    rintro _ _ ⟨rfl, rfl⟩
    have hsv := jsave_ok j p ⟨n, ⟨h.turn, h.first, h.gen + 1, h.low⟩, scanM D n h⟩ D ⟨t1, by dsimp only; omega⟩ hD (by omega) hw
    generalize scanM D n h = l at *
    refine WL.open P1 (fun x => ?_)
    unfold jrnL
    dsimp only [List.cons_append, List.nil_append]
    repeat (first | refine GD ?_ | refine NW fun _ => ?_)
    refine WL.imp (M := [jrn j p ⟨n, ⟨h.turn, h.first, h.gen + 1, h.low⟩, l⟩, dsk p D, F]) (Imp.trans II (jrnFold j p ⟨n, ⟨h.turn, h.first, h.gen + 1, h.low⟩, l⟩ x)) ?_
    refine WL.step rfl (OP.call (pre := [jrn j p ⟨n, ⟨h.turn, h.first, h.gen + 1, h.low⟩, l⟩, dsk p D]) rfl rfl hsv PS rfl rfl ?_)
    rintro _ _ ⟨rfl, rfl⟩
    repeat (first | refine GD ?_ | refine NW fun _ => ?_)
    refine ret2 rfl rfl ⟨_, ?_, Imp.refl _⟩
    unfold OpenJ
    rw [hdef]
    exact ⟨j, rfl, rfl⟩
set_option maxRecDepth 10000 in
theorem jflush_ok (j p : Nat) (J : Jrn) (D : Dsk) (hD : D.ok) (hw : D.W.length < 10000) :
    Triple G 84 [.pointer (some ⟨j, 0, none⟩)] [jrn j p J, dsk p D] (fun v M => v = .tuple #[] ∧ M = [jrn j p J, dsk p D.flush]) := by
  refine Triple.enter Tryz.func84 rfl (by decide) rfl Tryz.ntmps84 rfl (fun F => ?_)
  refine WC.open P1 (fun x => ?_)
  unfold jrnL
  dsimp only [List.cons_append, List.nil_append]
  repeat (first | refine GO ?_ | refine NW fun _ => ?_)
  refine WL.step rfl (OP.call (pre := [dsk p D]) rfl rfl (dflush_ok p D hD (by omega)) PS rfl rfl ?_)
  rintro _ _ ⟨rfl, rfl⟩
  repeat (first | refine GO ?_ | refine NW fun _ => ?_)
  exact ret0n ⟨_, ⟨rfl, rfl⟩, Imp.trans II (jrnFold j p J x)⟩
/-- what is told: the records -/
def RecsPost (l : List Held) (v : Value) (E : List Assn) : Prop := ∃ a cap, v = .slice a l.length cap ∧ E = [ownS a l.length cap 116 5 (l.flatMap (fun x => encR x.2))]
set_option maxHeartbeats 1000000 in
set_option maxRecDepth 10000 in
theorem jrecords_rt (j p : Nat) (J : Jrn) (hJ : J.rng) : RT G 147 [.pointer (some ⟨j, 0, none⟩)] (jrn j p J) (RecsPost J.held) := by
  refine RT.enterEx Tryz.func147 rfl (by decide) rfl Tryz.ntmps147 rfl (fun x A hu hA => ?_)
  have hB : ∀ {L}, A ∈ L → Ent L (cellsAt j 0 [.pointer (some ⟨p, 0, none⟩), .int .i64 J.ring, .int .i64 J.hd.turn, .int .i64 J.hd.first, .int .i64 J.hd.gen, .int .i64 J.hd.low, .slice x.1 J.held.length x.2]) := fun m => Ent.of hu hA m (Ent.whole (List.Mem.head _))
  have hH : ∀ {L}, A ∈ L → Ent L (readS x.1 J.held.length 6 (J.held.flatMap heldC)) := fun m => Ent.of hu hA m (Ent.own (List.Mem.tail _ (List.Mem.head _)))
  obtain ⟨⟨r1, r2⟩, hlen, _, _, _⟩ := hJ
  obtain ⟨ring, hd, l⟩ := J
  dsimp only at hB hH hlen r2 ⊢
  repeat (first | refine GO ?_ | refine NW fun _ => ?_)
  refine WL.step rfl (OP.load1 (v := .slice x.1 l.length x.2) rfl rfl rfl rfl (Ent.one (i := 6) (hB MM) rfl) rfl rfl ?_)
  repeat (first | refine GO ?_ | refine NW fun _ => ?_)
  refine WC.imp (Imp.nilS 116 5) ?_
  refine WC.loop (σ := Nat × Option Addr × Nat) (fun s => s.1 ≤ l.length)
    (fun s => [(0, .val (.pointer (some ⟨j, 0, none⟩))), (3, .val (.slice s.2.1 s.1 s.2.2)), (11, .val (.slice x.1 l.length x.2)), (12, .val (.int .i64 l.length)), (13, .val (.int .i64 s.1))])
    (fun s => [ownS s.2.1 s.1 s.2.2 116 5 ((l.take s.1).flatMap (fun x => encR x.2)), A]) (fun s => l.length - s.1) (0, none, 0) (Nat.zero_le _) ⟨rfl, rfl, rfl, rfl, rfl, trivial⟩ (Imp.refl _) ?_
  rintro ⟨k, a, cap⟩ hk
  dsimp only at hk ⊢
  by_cases hlt : k < l.length
  rotate_left
  · have he : k = l.length := by omega
    subst he
    rw [List.take_length]
    repeat (first | refine GD ?_ | refine NW fun _ => ?_)
    exact ret1 rfl ⟨_, ⟨a, cap, rfl, rfl⟩, Imp.refl _⟩
  have hsn : (l.take (k + 1)).flatMap (fun x => encR x.2) = (l.take k).flatMap (fun x => encR x.2) ++ encR l[k].2 := by
    rw [← List.take_append_getElem hlt, List.flatMap_append, List.flatMap_cons, List.flatMap_nil, List.append_nil]
  refine WC.fact (Ent.some (hH MM) (by omega)) ?_
  rintro ⟨b, off, hx⟩
  rw [hx]
  rw [hx] at hH
  repeat (first | refine GD ?_ | refine NW fun _ => ?_)
  refine WL.step rfl (OP.loadA (l := heldC l[k]) rfl rfl rfl rfl (Ent.elA heldC_len (hH MM) hlt) rfl rfl rfl ?_)
  generalize l[k] = e at *
  obtain ⟨g, r⟩ := e
  dsimp only at hsn
  repeat (first | refine GD ?_ | refine NW fun _ => ?_)
  refine WL.step rfl (OP.append (ds := encR r) rfl rfl rfl rfl rfl rfl rfl rfl rfl P1 (Ent.own MM) rfl (by omega) (by omega) rfl rfl (fun a' cap' => ?_))
  repeat (first | refine GD ?_ | refine NW fun _ => ?_)
  exact ⟨(k + 1, a', cap'), by dsimp only; omega, by dsimp only; omega, ⟨rfl, rfl, rfl, rfl, rfl, trivial⟩, by dsimp only; rw [hsn]; exact II⟩
end Go.Proofs.YtleajkobmhhacaaGreatDoor
/- Contracts of functions of the given program, and plain laws on what they compute: parts of the proofs of laws. -/

namespace Go.Proofs.YtleajkobmhhacaaGreatDoor
open Go Go.GL

/-- the faults of an append -/
def appEr (J : Jrn) (c : Int) : List (ByteArray × Int) := if c = 6 then [(jrnT, J.next)] else [(jrnT, J.next), (recW, J.next)]
def AppJ (j p : Nat) (J : Jrn) (D : Dsk) (r : Rec) (v : Value) (M : List Assn) : Prop := match appendM J D r with
  | .ok (J', D') => v = .tuple #[.int .i64 J.next, .nilIface] ∧ M = [jrn j p J', dsk p D']
  | .error c => ∃ e E, IsEr (some (appEr J c, c)) e E ∧ v = .tuple #[.int .i64 0, e] ∧ M = E ++ [jrn j p J, dsk p D]
set_option maxHeartbeats 8000000 in
set_option maxRecDepth 10000 in
theorem jappend_ok (j p : Nat) (J : Jrn) (D : Dsk) (r : Rec) (hJ : J.rng) (hl : 2 + J.ring ≤ D.S.length) (hw : D.W.length < 10000) (hsz : r.2.2.2.1.size < 1000000) :
    Triple G 83 [.pointer (some ⟨j, 0, none⟩), .agg (encR r).toArray] [jrn j p J, dsk p D] (AppJ j p J D r) := by
  refine Triple.enter Tryz.func83 rfl (by decide) rfl Tryz.ntmps83 rfl (fun F => ?_)
  have hnext := jnext_ro j p J hJ
  have hroom := jroom_ro j p J hJ
  have hdef : appendM J D r = if J.held.length = J.ring then .error 6
    else if RightR (setSeq r J.next) ∧ (0 ≤ J.hd.gen ∧ J.hd.gen ≤ widest) then
    .ok ({ J with held := J.held ++ [(J.hd.gen, setSeq r J.next)] }, D.put (posM J.ring J.next) (sectorM (bodyM J.hd.gen (setSeq r J.next))))
    else .error 1 := rfl
  have hnx : J.next = J.hd.first + J.held.length := rfl
  obtain ⟨⟨r1, r2⟩, hlen, ⟨t1, t2⟩, ⟨f1, f2⟩, ⟨g1, g2⟩⟩ := hJ
  have hn0 : 0 ≤ J.next ∧ J.next ≤ 9000000000000000000 := by omega
  have hat := jat_ro j p J ⟨r1, r2⟩ J.next (by omega)
  have hpb := pos_bd r1 J.next
  obtain ⟨seq, kind, block, data, num⟩ := r
  have hss : setSeq (seq, kind, block, data, num) J.next = (J.next, kind, block, data, num) := rfl
  rw [hss] at hdef
  dsimp only at hsz
  have henc := encode_ok J.hd.gen (J.next, kind, block, data, num) hsz
  unfold EncPost at henc
  rw [show encR (seq, kind, block, data, num) = [.int .i64 seq, .int .i64 kind, .int .i64 block, .string data, .int .i64 num] from rfl]
  rw [show encR (J.next, kind, block, data, num) = [.int .i64 J.next, .int .i64 kind, .int .i64 block, .string data, .int .i64 num] from rfl] at henc
  have hwr := dwrite_ok p D (posM J.ring J.next) (sectorM (bodyM J.hd.gen (J.next, kind, block, data, num)))
  have hEJ : ∀ {L : List Assn} {x}, Imp L (jrnL j p J x) → Ent L (jrn j p J) := fun i => Ent.exI _ i
  repeat (first | refine GD ?_ | refine NW fun _ => ?_)
  refine WL.step rfl (OP.callRO rfl rfl hnext (Ent.at (up_jrn j p J) MM) rfl rfl ?_)
  repeat (first | refine GD ?_ | refine NW fun _ => ?_)
  refine WL.step rfl (OP.callRO rfl rfl hroom (Ent.at (up_jrn j p J) MM) rfl rfl ?_)
  by_cases hfull : J.held.length = J.ring
  · rw [if_pos hfull] at hdef
    rw [hfull, Int.sub_self]
    repeat (first | refine GD ?_ | refine NW fun _ => ?_)
    refine WL.step rfl (OP.call (pre := []) rfl rfl (wrap_ok jrnT J.next 6 (by decide)) PS rfl rfl ?_)
    intro v M hF
    obtain ⟨M', h1, h2⟩ := hF.isEr
    repeat (first | refine GD ?_ | refine NW fun _ => ?_)
    refine ret2 rfl rfl ⟨M' ++ [jrn j p J, dsk p D], ?_, ?_⟩
    · unfold AppJ
      rw [hdef]
      exact ⟨v, M', h1, rfl, rfl⟩
    · rw [List.append_assoc]
      exact (Imp.app h2 _).trans (Imp.appL II _)
  rw [if_neg hfull] at hdef
  have hne : ¬ (J.ring : Int) - J.held.length = 0 := by omega
  repeat (first | refine GD ?_ | refine NW fun _ => ?_)
  refine WC.open P1 (fun x => ?_)
  unfold jrnL
  dsimp only [List.cons_append, List.nil_append]
  by_cases hR : RightR (J.next, kind, block, data, num) ∧ (0 ≤ J.hd.gen ∧ J.hd.gen ≤ widest)
  rotate_left
  · rw [if_neg hR] at hdef
    refine RD 12 12 (_) ?_
    refine WP 0 ?_
    refine WP 1 ?_
    refine WP 2 ?_
    refine WP 3 ?_
    refine VV 4 ?_
    refine VV 5 ?_
    refine WH.only 6 rfl rfl (by kernel_rfl) rfl (OP.callRT rfl rfl henc (fun _ _ => trivial) rfl rfl (fun v E hE' => ?_))
    rw [if_neg hR] at hE'
    obtain ⟨e, rfl, hF⟩ := hE'
    obtain ⟨b, rfl, rfl⟩ := hF
    refine ⟨fun _ => II, ?_⟩
    refine WP 7 ?_
    refine WP 8 ?_
    refine WP 9 ?_
    refine WP 10 ?_
    refine WP 11 ?_
    refine DN ?_
    repeat (first | refine GD ?_ | refine NW fun _ => ?_)
    refine WL.imp Imp.chain1 ?_
    refine WL.step rfl (OP.call (pre := [chainR [(_, recW, J.next)] 1]) rfl rfl (wrapC_ok jrnT J.next [(_, recW, J.next)] 1 (fun h => nomatch h.1)) PS rfl rfl ?_)
    rintro v M ⟨ch, h1, rfl, rfl⟩
    repeat (first | refine GD ?_ | refine NW fun _ => ?_)
    refine ret2 rfl rfl ⟨[chainR ch 1] ++ [jrn j p J, dsk p D], ?_, ?_⟩
    · unfold AppJ
      rw [hdef]
      exact ⟨_, _, ⟨ch, h1, rfl, rfl⟩, rfl, rfl⟩
    · exact Imp.trans II ((jrnFold j p J x (N := [chainR ch 1, dsk p D, F])).trans II)
  rw [if_pos hR] at hdef
  have hsl := sectorM_len (bodyM_len (gen := J.hd.gen) hR.1)
  generalize hS : sectorM (bodyM J.hd.gen (J.next, kind, block, data, num)) = S at *
  refine RD 12 12 (_) ?_
  refine WP 0 ?_
  refine WP 1 ?_
  refine WP 2 ?_
  refine WP 3 ?_
  refine VV 4 ?_
  refine VV 5 ?_
  refine WH.only 6 rfl rfl (by kernel_rfl) rfl (OP.callRT rfl rfl henc (fun _ _ => trivial) rfl rfl (fun v E hE' => ?_))
  rw [if_pos hR] at hE'
  obtain ⟨v1, rfl, a6, cap6, rfl, rfl⟩ := hE'
  refine ⟨fun _ => II, ?_⟩
  refine WP 7 ?_
  refine WP 8 ?_
  refine WP 9 ?_
  refine WP 10 ?_
  refine WP 11 ?_
  refine DN ?_
  repeat (first | refine GD ?_ | refine NW fun _ => ?_)
  refine RD 9 10 (_) ?_
  refine WP 0 ?_
  refine WP 1 ?_
  refine WP 2 ?_
  refine VV 3 ?_
  refine WP 4 ?_
  refine WP 5 ?_
  refine VV 6 ?_
  refine WP 8 ?_
  refine WH.only 7 rfl rfl (by kernel_rfl) rfl (OP.callRO rfl rfl (hat) (hEJ (x := x) (by unfold jrnL; exact II)) rfl rfl ⟨fun _ => II, ?_⟩)
  refine WH.only 9 rfl rfl (by kernel_rfl) rfl (OP.call (pre := [dsk p D, ownS a6 S.length cap6 5 1 (S.map byteV)]) rfl rfl (hwr a6 cap6 (by omega) (by omega)) PS rfl rfl (fun v M hM => ?_))
  unfold WrPost at hM
  rw [if_pos ⟨by omega, hsl⟩, Int.toNat_natCast] at hM
  obtain ⟨rfl, rfl⟩ := hM
  refine ⟨(fun h => nomatch h), ?_⟩
  refine DN ?_
  repeat (first | refine GD ?_ | refine NW fun _ => ?_)
  refine RD 13 17 (_) ?_
  refine WP 0 ?_
  refine WP 1 ?_
  refine WP 2 ?_
  refine WP 3 ?_
  refine VV 4 ?_
  refine WP 5 ?_
  refine WP 6 ?_
  refine WP 7 ?_
  refine WP 8 ?_
  refine VV 9 ?_
  refine VV 10 ?_
  refine WH.only 11 rfl rfl (by kernel_rfl) rfl (OP.buildT rfl rfl rfl rfl ⟨fun _ => II, ?_⟩)
  refine WH.only 12 rfl rfl (by kernel_rfl) rfl (OP.sliceLit (c := heldC (J.hd.gen, J.next, kind, block, data, num)) rfl rfl rfl rfl rfl rfl rfl rfl (fun b2 => ⟨fun _ => II, ?_⟩))
  refine WH.only 13 rfl rfl (by kernel_rfl) rfl (OP.append rfl rfl rfl rfl rfl rfl rfl rfl rfl P1 (Ent.own MM) rfl (by omega) (by omega) rfl rfl (fun a' cap' => ⟨(fun h => nomatch h), ?_⟩))
  refine WP 14 ?_
  refine WP 15 ?_
  refine WH.only 16 rfl rfl (by kernel_rfl) rfl (OP.store rfl rfl rfl rfl rfl rfl rfl UP rfl ⟨(fun h => nomatch h), ?_⟩)
  refine DN ?_
  repeat (first | refine GD ?_ | refine NW fun _ => ?_)
  refine ret2 rfl rfl ⟨[jrn j p { J with held := J.held ++ [(J.hd.gen, J.next, kind, block, data, num)] }, dsk p (D.put (posM J.ring J.next) S)], ?_, ?_⟩
  · unfold AppJ
    rw [hdef]
    exact ⟨rfl, rfl⟩
  · refine Imp.trans ?_ (jrnFold j p { J with held := J.held ++ [(J.hd.gen, J.next, kind, block, data, num)] } (a', cap'))
    dsimp only
    rw [List.length_append, List.flatMap_append, List.flatMap_cons, List.flatMap_nil, List.append_nil]
    exact II
end Go.Proofs.YtleajkobmhhacaaGreatDoor
/- Contracts of functions of the given program, and plain laws on what they compute: parts of the proofs of laws. -/

namespace Go.Proofs.YtleajkobmhhacaaGreatDoor
open Go Go.GL

/-! a part of what is held is copied -/
set_option maxRecDepth 10000 in
theorem hclone_rt (a : Addr) (n c : Nat) (l : List Held) (hn : n = l.length) (hs : n < 1000000) : RT G 225 [.slice (some a) n c] (readS (some a) n 6 (l.flatMap heldC))
    (fun v E => ∃ a' cap', v = .slice a' l.length cap' ∧ E = [ownS a' l.length cap' 259 6 (l.flatMap heldC)]) := by
  refine RT.enter Tryz.func225 rfl (by decide) rfl Tryz.ntmps225 rfl (fun A hu hA => ?_)
  have hE : ∀ {L}, A ∈ L → Ent L (readS (some a) n 6 (l.flatMap heldC)) := fun m => Ent.mem m hu hA
  have h1 : ∀ l : List Held, allOne (l.flatMap heldC) = true := fun l => by
    induction l with
    | nil => rfl
    | cons x r ih => rw [List.flatMap_cons]; simpa [heldC, encR, allOne, one] using ih
  repeat (first | refine GO ?_ | refine NW fun _ => ?_)
  refine WL.step rfl (OP.lit0 (size := 6) rfl rfl rfl rfl rfl rfl (fun b => ?_))
  repeat (first | refine GO ?_ | refine NW fun _ => ?_)
  refine WL.step rfl (OP.append rfl rfl rfl rfl rfl rfl rfl rfl rfl P1 (hE MM) (h1 _) (by omega) (by omega) rfl rfl (fun a2' cap2 => ?_))
  rw [Nat.zero_add, List.nil_append]
  repeat (first | refine GO ?_ | refine NW fun _ => ?_)
  exact ret1 rfl ⟨[ownS a2' n cap2 259 6 (l.flatMap heldC)], ⟨a2', cap2, by rw [hn], by rw [hn]⟩, II⟩
def TrimJ (j p : Nat) (J : Jrn) (D : Dsk) (k : Int) (v : Value) (M : List Assn) : Prop := match trimM J D k with
  | .ok (J', D') => v = .nilIface ∧ M = [jrn j p J', dsk p D']
  | .error c => ∃ E, IsEr (some ([(jrnT, k)], c)) v E ∧ M = E ++ [jrn j p J, dsk p D]
set_option maxHeartbeats 8000000 in
set_option maxRecDepth 10000 in
theorem jtrim_ok (j p : Nat) (J : Jrn) (D : Dsk) (k : Int) (hJ : J.rng) (hD : D.ok) (hl : 2 + J.ring ≤ D.S.length) (hw : D.W.length < 10000) :
    Triple G 189 [.pointer (some ⟨j, 0, none⟩), .int .i64 k] [jrn j p J, dsk p D] (TrimJ j p J D k) := by
  refine Triple.enter Tryz.func189 rfl (by decide) rfl Tryz.ntmps189 rfl (fun F => ?_)
  obtain ⟨⟨r1, r2⟩, hlen, ⟨t1, t2⟩, ⟨f1, f2⟩, ⟨g1, g2⟩⟩ := hJ
  have hdef : trimM J D k = if k < 0 ∨ (J.held.length : Int) < k then .error 1
    else if k = 0 then .ok (J, D)
    else .ok ({ J with hd := { J.hd with turn := J.hd.turn + 1, first := J.hd.first + k, low := (J.held.getD (k.toNat - 1) (0, rec0)).1 }, held := J.held.drop k.toNat },
      saveM D.flush { J.hd with turn := J.hd.turn + 1, first := J.hd.first + k, low := (J.held.getD (k.toNat - 1) (0, rec0)).1 }) := rfl
  refine WC.open P1 (fun x => ?_)
  unfold jrnL
  dsimp only [List.cons_append, List.nil_append]
  by_cases h1 : k < 0
  · have hop : trimM J D k = .error 1 := by rw [hdef, if_pos (.inl h1)]
    repeat (first | refine GD ?_ | refine NW fun _ => ?_)
    refine WL.step rfl (OP.call (pre := []) rfl rfl (wrap_ok jrnT k 1 (by decide)) PS rfl rfl ?_)
    intro v M hF
    obtain ⟨M', h1, h2⟩ := hF.isEr
    repeat (first | refine GD ?_ | refine NW fun _ => ?_)
    refine ret1 rfl ⟨M' ++ [jrn j p J, dsk p D], ?_, ?_⟩
    · unfold TrimJ
      rw [hop]
      exact ⟨M', h1, rfl⟩
    · rw [List.append_assoc]
      refine (Imp.app h2 _).trans (Imp.appL ?_ _)
      exact Imp.trans II (jrnFold j p J x)
  by_cases h2 : (J.held.length : Int) < k
  · have hop : trimM J D k = .error 1 := by rw [hdef, if_pos (.inr h2)]
    repeat (first | refine GD ?_ | refine NW fun _ => ?_)
    refine WL.step rfl (OP.call (pre := []) rfl rfl (wrap_ok jrnT k 1 (by decide)) PS rfl rfl ?_)
    intro v M hF
    obtain ⟨M', h1, h2⟩ := hF.isEr
    repeat (first | refine GD ?_ | refine NW fun _ => ?_)
    refine ret1 rfl ⟨M' ++ [jrn j p J, dsk p D], ?_, ?_⟩
    · unfold TrimJ
      rw [hop]
      exact ⟨M', h1, rfl⟩
    · rw [List.append_assoc]
      refine (Imp.app h2 _).trans (Imp.appL ?_ _)
      exact Imp.trans II (jrnFold j p J x)
  rw [if_neg (by omega)] at hdef
  by_cases h3 : k = 0
  · subst h3
    rw [if_pos rfl] at hdef
    repeat (first | refine GD ?_ | refine NW fun _ => ?_)
    refine ret1 rfl ⟨[jrn j p J, dsk p D], ?_, Imp.trans II (jrnFold j p J x)⟩
    unfold TrimJ
    rw [hdef]
    exact ⟨rfl, rfl⟩
  rw [if_neg h3] at hdef
  obtain ⟨n, rfl⟩ : ∃ n : Nat, k = n := ⟨k.toNat, by omega⟩
  rw [Int.toNat_natCast] at hdef
  have hn1 : n - 1 < J.held.length := by omega
  rw [List.getD_eq_getElem?_getD, List.getElem?_eq_getElem hn1] at hdef
  dsimp only [Option.getD_some] at hdef
  refine WC.fact (Ent.some (Ent.own (a := x.1) (n := J.held.length) (cap := x.2) (T := 259) (size := 6) (cs := J.held.flatMap heldC) MM) (by omega)) ?_
  rintro ⟨b, off, hx⟩
  refine WC.fact (Ent.ownLe (a := x.1) (n := J.held.length) (cap := x.2) (T := 259) (size := 6) (cs := J.held.flatMap heldC) MM) (fun hcap => ?_)
  rw [hx]
  repeat (first | refine GD ?_ | refine NW fun _ => ?_)
  refine WL.step rfl (OP.call (pre := [dsk p D]) rfl rfl (dflush_ok p D hD (by omega)) PS rfl rfl ?_)
  rintro _ _ ⟨rfl, rfl⟩
  repeat (first | refine GD ?_ | refine NW fun _ => ?_)
  rw [show ((n : Int) - 1).toNat = n - 1 by omega]
  refine WL.step rfl (OP.load1 (v := .int .i64 (J.held[n - 1]).1) rfl rfl rfl rfl (Ent.elF heldC_len (Ent.own (T := 259) MM) hn1 rfl rfl) rfl rfl ?_)
  generalize (J.held[n - 1]).1 = lw at *
  repeat (first | refine GD ?_ | refine NW fun _ => ?_)
  obtain ⟨ca, hca⟩ : ∃ ca, cutA (some ⟨b, off, none⟩) x.2 n 6 = some ca := by unfold cutA; split <;> exact ⟨_, rfl⟩
  rw [hca]
  refine WL.step rfl (OP.callRT rfl rfl (hclone_rt ca (J.held.length - n) (x.2 - n) (J.held.drop n) (by simp) (by omega)) (fun h s => by
    have := readS_cut (Ent.own (a := some ⟨b, off, none⟩) (n := J.held.length) (cap := x.2) (T := 259) (size := 6) (cs := J.held.flatMap heldC) MM h s) (show n ≤ J.held.length by omega) hcap
    rw [hca, flat_drop heldC_len] at this
    exact this) rfl rfl ?_)
  rintro _ _ ⟨a3, cap3, rfl, rfl⟩
  repeat (first | refine GD ?_ | refine NW fun _ => ?_)
  refine WL.imp (M := [jrn j p ⟨J.ring, ⟨J.hd.turn, J.hd.first + n, J.hd.gen, lw⟩, J.held.drop n⟩, dsk p D.flush, F]) (Imp.trans II (jrnFold j p ⟨J.ring, ⟨J.hd.turn, J.hd.first + n, J.hd.gen, lw⟩, J.held.drop n⟩ (a3, cap3))) ?_
  refine WL.step rfl (OP.call (pre := [jrn j p ⟨J.ring, ⟨J.hd.turn, J.hd.first + n, J.hd.gen, lw⟩, J.held.drop n⟩, dsk p D.flush]) rfl rfl (jsave_ok j p ⟨J.ring, ⟨J.hd.turn, J.hd.first + n, J.hd.gen, lw⟩, J.held.drop n⟩ D.flush ⟨t1, t2⟩ (Dsk.settle_ok hD _) (by rw [show D.flush.S.length = D.S.length from Dsk.settle_len D _]; omega) (by show (0 : Nat) < 10000; decide)) PS rfl rfl ?_)
  rintro _ _ ⟨rfl, rfl⟩
  repeat (first | refine GD ?_ | refine NW fun _ => ?_)
  refine ret1 rfl ⟨_, ?_, Imp.refl _⟩
  unfold TrimJ
  rw [hdef]
  exact ⟨rfl, rfl⟩
end Go.Proofs.YtleajkobmhhacaaGreatDoor
/- Contracts of functions of the given program, and plain laws on what they compute: parts of the proofs of laws. -/
/- Contracts of functions of the given program, and plain laws on what they compute: parts of the proofs of laws. -/
namespace Go.Proofs.YtleajkobmhhacaaGreatDoor
open Go Go.GL

/-! a volume: the plain model -/
/-- what a block's sector tells: the record's number, its data -/
abbrev Plc := Int × ByteArray
def plc0 : Plc := (0, ⟨#[]⟩)
def plcB (x : Plc) (block : Int) : List UInt8 := numB (clampN x.1) ++ numB (clampN block) ++ textB x.2
def plcS (x : Plc) (block : Int) : List UInt8 := sectorM (plcB x block)
/-- a place that is read -/
def pl3 (s : PR) : Plc × PR := (((numR s).1, (textR 16 (numR (numR s).2).2).1), (textR 16 (numR (numR s).2).2).2)
def PlcOk (b : List UInt8) (block : Int) (x : Plc) (e : Int) : Prop := e = 0 ∧ 0 < x.1 ∧ plcS x block = b
instance (b : List UInt8) (block : Int) (x : Plc) (e : Int) : Decidable (PlcOk b block x e) := by unfold PlcOk; infer_instance
def plcOf (b : List UInt8) (block : Int) : Option Plc :=
  if b = zero64 then some plc0
  else if OpenOk b ∧ PlcOk b block (pl3 (b.take (b.length - 4), 0)).1 (pl3 (b.take (b.length - 4), 0)).2.2 then some (pl3 (b.take (b.length - 4), 0)).1 else none
/-- a volume: its journal, what is laid, its blocks -/
structure Vol where
  J : Jrn
  laid : List Plc
  blks : List Plc
def takeV (l : List Plc) (r : Rec) : List Plc :=
  if r.2.1 = 1 ∧ (l.getD r.2.2.1.toNat plc0).1 < r.1 then l.set r.2.2.1.toNat (r.1, r.2.2.2.1) else l
def takeAll (l : List Plc) (h : List Held) : List Plc := h.foldl (fun s x => takeV s x.2) l
/-- the places that a disk tells, from a block on -/
def plcsF (D : Dsk) (ring : Nat) : Nat → List Plc → Option (List Plc)
  | 0, l => some l
  | k + 1, l => match plcOf (D.cur (2 + ring + l.length)) l.length with
    | some x => plcsF D ring k (l ++ [x])
    | none => none
def plcsM (D : Dsk) (ring : Nat) : Option (List Plc) := plcsF D ring 8 []
end Go.Proofs.YtleajkobmhhacaaGreatDoor
/- Contracts of functions of the given program, and plain laws on what they compute: parts of the proofs of laws. -/

namespace Go.Proofs.YtleajkobmhhacaaGreatDoor
open Go Go.GL

/-! a volume's places -/
def plcC (x : Plc) : List Value := [.int .i64 x.1, .string x.2]
theorem plcB_len {x : Plc} {block : Int} (h : x.2.size ≤ 16) : (plcB x block).length ≤ 60 := by
  have h1 := numB_nine x.1
  have h2 := numB_nine block
  have h3 := numB_nine x.2.size
  rw [clamp_nat x.2.size (by have : widest = 1152921504606846975 := rfl; omega)] at h3
  unfold plcB textB
  simp only [List.length_append]
  have : x.2.data.toList.length = x.2.size := Array.length_toList
  omega
set_option maxHeartbeats 2000000 in
set_option maxRecDepth 10000 in
theorem psector_rt (x : Plc) (block : Int) (hx : x.2.size ≤ 16) : RT G 188 [.agg (plcC x).toArray, .int .i64 block] (fun _ => True) (BytesNew (plcS x block)) := by
  refine RT.enter Tryz.func188 rfl (by decide) rfl Tryz.ntmps188 rfl (fun A hu hA => ?_)
  have h1 := numB_nine x.1
  have h2 := numB_nine block
  have hb := plcB_len (block := block) hx
  rw [show plcC x = [.int .i64 x.1, .string x.2] from rfl]
  repeat (first | refine GO ?_ | refine NW fun _ => ?_)
  refine WL.step rfl (OP.call (pre := [ownS none 0 0 5 1 (([] : List UInt8).map byteV)]) rfl rfl (number_ok none 0 0 [] x.1 (by omega)) (Imp.nilS 5 1) rfl rfl ?_)
  rintro _ _ ⟨a1, cap1, rfl, rfl⟩
  repeat (first | refine GO ?_ | refine NW fun _ => ?_)
  refine WL.step rfl (OP.call (pre := [ownS a1 _ cap1 5 1 _]) rfl rfl (number_ok a1 _ cap1 _ block (by omega)) PS rfl rfl ?_)
  rintro _ _ ⟨a2, cap2, rfl, rfl⟩
  repeat (first | refine GO ?_ | refine NW fun _ => ?_)
  refine WL.step rfl (OP.call (pre := [ownS a2 _ cap2 5 1 _]) rfl rfl (text_ok a2 _ cap2 _ x.2 (by omega) (by omega)) PS rfl rfl ?_)
  rintro _ _ ⟨a3, cap3, rfl, rfl⟩
  repeat (first | refine GO ?_ | refine NW fun _ => ?_)
  have e1 : [] ++ numB (clampN x.1) ++ numB (clampN block) ++ textB x.2 = plcB x block := by unfold plcB; simp
  have e2 : 0 + (numB (clampN x.1)).length + (numB (clampN block)).length + (textB x.2).length = (plcB x block).length := by unfold plcB; simp only [List.length_append]; omega
  rw [e1, e2]
  refine WL.step rfl (OP.callRT rfl rfl (sector_ok a3 _ cap3 (plcB x block) rfl hb) (Ent.own (T := 5) MM) rfl rfl ?_)
  rintro _ _ ⟨v1, rfl, a6, cap6, rfl, rfl⟩
  repeat (first | refine GO ?_ | refine NW fun _ => ?_)
  exact ret1 rfl ⟨[_], ⟨a6, cap6, rfl, rfl⟩, II⟩
end Go.Proofs.YtleajkobmhhacaaGreatDoor
/- Contracts of functions of the given program, and plain laws on what they compute: parts of the proofs of laws. -/

namespace Go.Proofs.YtleajkobmhhacaaGreatDoor
open Go Go.GL

def PlcPost (l : List UInt8) (block : Int) (v : Value) : Prop := match plcOf l block with
  | some x => v = .tuple #[.agg (plcC x).toArray, .bool true]
  | none => ∃ x, v = .tuple #[.agg (plcC x).toArray, .bool false]
set_option maxHeartbeats 4000000 in
set_option maxRecDepth 10000 in
theorem placeOf_rt (a : Option Addr) (n c : Nat) (l : List UInt8) (block : Int) (hn : n = l.length) (hc : n ≤ c) (hs : n = 64) : RT G 213 [.slice a n c, .int .i64 block] (readS a n 1 (l.map byteV)) (fun v E => PlcPost l block v ∧ E = []) := by
  refine RT.enter Tryz.func213 rfl (by decide) rfl Tryz.ntmps213 rfl (fun A hu hA => ?_)
  have hE : ∀ {L}, A ∈ L → Ent L (readS a n 1 (l.map byteV)) := fun m => Ent.mem m hu hA
  repeat (first | refine GD ?_ | refine NW fun _ => ?_)
  refine WL.step rfl (OP.makeS (z := [.int .u8 0]) rfl rfl rfl rfl rfl rfl rfl rfl (by decide) (by decide) (by decide) rfl rfl (fun bz => ?_))
  have hz : repL [Value.int .u8 0] (Int.toNat 64) = zero64.map byteV := by rw [repL_bytes]; rfl
  rw [hz]
  refine WL.step rfl (OP.callRO rfl rfl (beq_ro a (some ⟨bz, 0, none⟩) n c _ _ l zero64) (Ent.and (hE MM) (Ent.own (T := 5) MM)) rfl rfl ?_)
  by_cases h0 : l = zero64
  · rw [decide_eq_true h0]
    have hdec : plcOf l block = some plc0 := by unfold plcOf; rw [if_pos h0]
    repeat (first | refine GD ?_ | refine NW fun _ => ?_)
    refine retc2 rfl rfl rfl rfl rfl (HasCut.ent (n := 2) HC).1 ⟨[], ⟨?_, rfl⟩, II⟩
    unfold PlcPost
    rw [hdec]
    rfl
  rw [decide_eq_false h0]
  have hdef : plcOf l block = if OpenOk l ∧ PlcOk l block (pl3 (l.take (l.length - 4), 0)).1 (pl3 (l.take (l.length - 4), 0)).2.2 then some (pl3 (l.take (l.length - 4), 0)).1 else none := by unfold plcOf; rw [if_neg h0]
  repeat (first | refine GD ?_ | refine NW fun _ => ?_)
  refine WL.step rfl (OP.callRT rfl rfl (open_ok a n c l hn hc (by omega)) (hE MM) rfl rfl ?_)
  rintro v E hO
  unfold OpenPost at hO
  by_cases ho : OpenOk l
  rotate_left
  · rw [if_neg ho] at hO
    obtain ⟨rfl, rfl⟩ := hO
    have hdec : plcOf l block = none := by rw [hdef, if_neg (fun h => ho h.1)]
    repeat (first | refine GD ?_ | refine NW fun _ => ?_)
    refine retc2 rfl rfl rfl rfl rfl (HasCut.ent (n := 2) HC).1 ⟨[], ⟨?_, rfl⟩, II⟩
    unfold PlcPost
    rw [hdec]
    exact ⟨plc0, rfl⟩
  rw [if_pos ho] at hO
  obtain ⟨v1, rfl, a2, cap2, rfl, rfl⟩ := hO
  have hdR : plcOf l block = if PlcOk l block (pl3 (l.take (l.length - 4), 0)).1 (pl3 (l.take (l.length - 4), 0)).2.2 then some (pl3 (l.take (l.length - 4), 0)).1 else none := by
    rw [hdef]
    by_cases hk : PlcOk l block (pl3 (l.take (l.length - 4), 0)).1 (pl3 (l.take (l.length - 4), 0)).2.2
    · rw [if_pos ⟨ho, hk⟩, if_pos hk]
    · rw [if_neg (fun h => hk h.2), if_neg hk]
  clear hdef
  have hl4 : (l.take (l.length - 4)).length < 1000000 := by rw [List.length_take]; omega
  generalize l.take (l.length - 4) = l4 at *
  refine WL.fact (Ent.ownLe (a := a2) (n := l4.length) (cap := cap2) (T := 5) (size := 1) (cs := l4.map byteV) MM) (fun hc2 => ?_)
  have hby : Bytes (ownS a2 l4.length cap2 5 1 (l4.map byteV)) l4 (.slice a2 l4.length cap2) := ⟨a2, l4.length, cap2, rfl, rfl, hc2, fun h x => read_of_own x⟩
  generalize hO : ownS a2 l4.length cap2 5 1 (l4.map byteV) = O at *
  have huO : Up O := by rw [← hO]; exact up_ownS _ _ _ _ _ _
  repeat (first | refine GD ?_ | refine NW fun _ => ?_)
  refine WL.step rfl (OP.callRT rfl rfl (read0_ok a2 l4.length cap2) (fun _ _ => trivial) rfl rfl ?_)
  rintro v E ⟨r, rfl, rfl⟩
  unfold pl3 at hdR
  repeat (first | refine GD ?_ | refine NW fun _ => ?_)
  refine WL.step rfl (OP.call (pre := [blk r [.slice a2 l4.length cap2, .int .i64 (l4, 0).2] 356, O]) rfl rfl (numR_ok r _ (l4, 0) O huO hby (by first | exact hl4 | assumption)) PS rfl rfl ?_)
  rintro _ _ ⟨rfl, vy1, hy1, rfl⟩
  have by1 := numR_bd (l4, 0)
  have hly1 : (numR (l4, 0)).2.1.length < 1000000 := by
    refine Nat.lt_of_le_of_lt by1.1 ?_
    first | exact hl4 | assumption
  generalize numR (l4, 0) = y1 at *
  obtain ⟨xy1, sy1⟩ := y1
  dsimp only at hy1 by1 hly1 hdR ⊢
  repeat (first | refine GD ?_ | refine NW fun _ => ?_)
  refine WL.step rfl (OP.call (pre := [blk r [vy1, .int .i64 sy1.2] 356, O]) rfl rfl (numR_ok r _ sy1 O huO hy1 (by first | exact hl4 | assumption)) PS rfl rfl ?_)
  rintro _ _ ⟨rfl, vy2, hy2, rfl⟩
  have by2 := numR_bd sy1
  have hly2 : (numR sy1).2.1.length < 1000000 := by
    refine Nat.lt_of_le_of_lt by2.1 ?_
    first | exact hl4 | assumption
  generalize numR sy1 = y2 at *
  obtain ⟨xy2, sy2⟩ := y2
  dsimp only at hy2 by2 hly2 hdR ⊢
  repeat (first | refine GD ?_ | refine NW fun _ => ?_)
  refine WL.step rfl (OP.call (pre := [blk r [vy2, .int .i64 sy2.2] 356, O]) rfl rfl (textR_ok r _ sy2 O huO hy2 hly2 16) PS rfl rfl ?_)
  rintro _ _ ⟨rfl, vy3, hy3, rfl⟩
  have hts := textR_size 16 sy2 (by decide)
  generalize textR 16 sy2 = y3 at *
  obtain ⟨d3, l3, e3⟩ := y3
  dsimp only at hy3 hts hdR ⊢
  repeat (first | refine GD ?_ | refine NW fun _ => ?_)
  refine WL.step rfl (OP.callRO rfl rfl (err_ro r vy3 e3) (Ent.whole (T := 356) MM) rfl rfl ?_)
  by_cases he : e3 = 0
  rotate_left
  · have hdec : plcOf l block = none := by rw [hdR, if_neg (fun h => he h.1)]
    repeat (first | refine GD ?_ | refine NW fun _ => ?_)
    refine retc2 rfl rfl rfl rfl rfl (HasCut.ent (n := 2) HC).1 ⟨[], ⟨?_, rfl⟩, II⟩
    unfold PlcPost
    rw [hdec]
    exact ⟨(xy1, d3), rfl⟩
  by_cases h1 : 0 < xy1
  rotate_left
  · have hdec : plcOf l block = none := by rw [hdR, if_neg (fun h => h1 h.2.1)]
    repeat (first | refine GD ?_ | refine NW fun _ => ?_)
    refine retc2 rfl rfl rfl rfl rfl (HasCut.ent (n := 2) HC).1 ⟨[], ⟨?_, rfl⟩, II⟩
    unfold PlcPost
    rw [hdec]
    exact ⟨(xy1, d3), rfl⟩
  have hsec := psector_rt (xy1, d3) block (by dsimp only; omega)
  repeat (first | refine GD ?_ | refine NW fun _ => ?_)
  refine WL.guardT rfl rfl rfl rfl (OP.callRT rfl rfl hsec (fun _ _ => trivial) rfl rfl ?_)
  rintro _ _ ⟨a6, cap6, rfl, rfl⟩
  repeat (first | refine GD ?_ | refine NW fun _ => ?_)
  refine WL.guardT rfl rfl rfl rfl (OP.callRO rfl rfl (beq_ro a6 a _ cap6 n c (plcS (xy1, d3) block) l) (Ent.and (Ent.own (T := 5) MM) (hE MM)) rfl rfl ?_)
  by_cases h4 : plcS (xy1, d3) block = l
  · have hdec : plcOf l block = some (xy1, d3) := by rw [hdR, if_pos ⟨he, h1, h4⟩]
    rw [decide_eq_true h4]
    repeat (first | refine GD ?_ | refine NW fun _ => ?_)
    refine retc2 rfl rfl rfl rfl rfl (HasCut.ent (n := 2) HC).1 ⟨[], ⟨?_, rfl⟩, II⟩
    unfold PlcPost
    rw [hdec]
    rfl
  · have hdec : plcOf l block = none := by rw [hdR, if_neg (fun h => h4 h.2.2)]
    rw [decide_eq_false h4]
    repeat (first | refine GD ?_ | refine NW fun _ => ?_)
    refine retc2 rfl rfl rfl rfl rfl (HasCut.ent (n := 2) HC).1 ⟨[], ⟨?_, rfl⟩, II⟩
    unfold PlcPost
    rw [hdec]
    exact ⟨(xy1, d3), rfl⟩
end Go.Proofs.YtleajkobmhhacaaGreatDoor
/- Contracts of functions of the given program, and plain laws on what they compute: parts of the proofs of laws. -/
namespace Go.Proofs.YtleajkobmhhacaaGreatDoor
open Go Go.GL

/-! a volume that is opened: the plain model -/
def volTx : ByteArray := ⟨#[118, 111, 108, 117, 109, 101]⟩
def jrnTx : ByteArray := ⟨#[106, 111, 117, 114, 110, 97, 108]⟩
def openV (D : Dsk) (ring : Int) : Except (List (ByteArray × Int) × Int) (Vol × Dsk) :=
  if ring < 1 ∨ 512 < ring ∨ (D.S.length : Int) < 10 + ring then .error ([(volTx, ring)], 1)
  else match openM D ring with
    | .error c => .error ([(volTx, ring), (jrnTx, ring)], c)
    | .ok (J, D') => match plcsM D' ring.toNat with
      | none => .error ([(volTx, ring)], 4)
      | some l => .ok (⟨J, l, takeAll l J.held⟩, D')
theorem takeV_len (l : List Plc) (r : Rec) : (takeV l r).length = l.length := by unfold takeV; split <;> simp
theorem takeAll_len (h : List Held) : ∀ (l : List Plc), (takeAll l h).length = l.length := by
  induction h with
  | nil => intro l; rfl
  | cons x r ih => intro l; show (takeAll (takeV l x.2) r).length = _; rw [ih, takeV_len]
theorem takeAll_snoc (l : List Plc) (h : List Held) (x : Held) : takeAll l (h ++ [x]) = takeV (takeAll l h) x.2 := by
  unfold takeAll; rw [List.foldl_append]; rfl
theorem takeAll_app (l : List Plc) (h g : List Held) : takeAll l (h ++ g) = takeAll (takeAll l h) g := by
  unfold takeAll; rw [List.foldl_append]
theorem plcsF_len {D : Dsk} {ring : Nat} : ∀ {k : Nat} {l m : List Plc}, plcsF D ring k l = some m → m.length = l.length + k
  | 0, l, m, h => by cases h; rfl
  | k + 1, l, m, h => by
    rw [plcsF] at h
    split at h
    · have := plcsF_len h
      simp at this
      omega
    · cases h
theorem plcsM_len {D : Dsk} {ring : Nat} {m : List Plc} (h : plcsM D ring = some m) : m.length = 8 := by
  have := plcsF_len h
  simpa using this
theorem scanF_right (D : Dsk) (ring : Nat) (h : Hd) : ∀ (k : Nat) (l : List Held) (low : Int), (∀ x ∈ l, RightR x.2) → ∀ x ∈ scanF D ring h k l low, RightR x.2
  | 0, _, _, hl => hl
  | k + 1, l, low, hl => by
    rw [scanF]
    split
    · rename_i x hx
      refine scanF_right D ring h k _ _ (fun y hy => ?_)
      rcases List.mem_append.1 hy with hy | hy
      · exact hl y hy
      · rw [List.mem_singleton.1 hy]
        exact (decR_ok (g := x.1) (r := x.2) (fits_some hx).1).1
    · exact hl
theorem scanM_right (D : Dsk) (ring : Nat) (h : Hd) : ∀ x ∈ scanM D ring h, RightR x.2 := scanF_right D ring h _ _ _ (fun _ hx => by cases hx)
theorem right_block {r : Rec} (h : RightR r) : r.2.1 = 1 → 0 ≤ r.2.2.1 ∧ r.2.2.1 < 8 := fun e => by
  rcases h.2 with h | h
  · omega
  · exact h.2.1
end Go.Proofs.YtleajkobmhhacaaGreatDoor
/- Contracts of functions of the given program, and plain laws on what they compute: parts of the proofs of laws. -/
namespace Go.Proofs.YtleajkobmhhacaaGreatDoor
open Go Go.GL

/-! a volume's calls: the plain model -/
/-- what a volume's parts are within -/
structure Vol.rng (V : Vol) : Prop where
  J : V.J.rng
  l8 : V.laid.length = 8
  b8 : V.blks.length = 8
  s : ∀ x ∈ V.blks, x.2.size ≤ 16
/-- a record is put into the journal -/
def appV (V : Vol) (D : Dsk) (at_ : Int) (r : Rec) : Except (List (ByteArray × Int) × Int) (Vol × Dsk) := match appendM V.J D r with
  | .ok (J', D') => .ok (⟨J', V.laid, takeV V.blks (setSeq r V.J.next)⟩, D')
  | .error c => .error ((volTx, at_) :: appEr V.J c, c)
def writeV (V : Vol) (D : Dsk) (block : Int) (data : ByteArray) : Except (List (ByteArray × Int) × Int) (Vol × Dsk) :=
  if ¬ (0 ≤ block ∧ block < 8) then .error ([(volTx, block)], 5)
  else if 16 < data.size then .error ([(volTx, block)], 1)
  else appV V D block (0, 1, block, data, 0)
def markV (V : Vol) (D : Dsk) (number : Int) : Except (List (ByteArray × Int) × Int) (Vol × Dsk) := appV V D number (0, 2, 0, ⟨#[]⟩, number)
def readV (V : Vol) (block : Int) : Except (List (ByteArray × Int) × Int) ByteArray :=
  if ¬ (0 ≤ block ∧ block < 8) then .error ([(volTx, block)], 5) else .ok (V.blks.getD block.toNat plc0).2
def uptoV (h : List Held) (number : Int) : Nat := (h.filter (fun x => decide (x.2.1 ≤ number))).length
/-- the blocks that are newer than what is laid are laid -/
def layF (ring : Nat) (laid blks : List Plc) : Nat → Dsk → Dsk
  | 0, D => D
  | k + 1, D => if (laid.getD k plc0).1 < (blks.getD k plc0).1 then (layF ring laid blks k D).put (2 + ring + k) (plcS (blks.getD k plc0) k) else layF ring laid blks k D
def layV (V : Vol) (D : Dsk) : Dsk := (layF V.J.ring V.laid V.blks 8 D.flush).flush
def ckV (V : Vol) (D : Dsk) (upto : Int) : Except (List (ByteArray × Int) × Int) (Vol × Dsk) :=
  if upto < 0 ∨ V.J.next ≤ upto then .error ([(volTx, upto)], 5)
  else match trimM V.J (layV V D) (uptoV V.J.held upto) with
    | .ok (J', D') => .ok (⟨J', V.blks, V.blks⟩, D')
    | .error c => .error ([(jrnTx, (uptoV V.J.held upto : Nat))], c)
theorem uptoV_le (h : List Held) (n : Int) : uptoV h n ≤ h.length := List.length_filter_le _ _
theorem plcS_len {x : Plc} {block : Int} (h : x.2.size ≤ 16) : (plcS x block).length = 64 := sectorM_len (plcB_len h)
theorem takeV_s {l : List Plc} {r : Rec} (h : ∀ x ∈ l, x.2.size ≤ 16) (hr : r.2.1 = 1 → r.2.2.2.1.size ≤ 16) : ∀ x ∈ takeV l r, x.2.size ≤ 16 := by
  unfold takeV
  split
  · rename_i hc
    intro x hx
    rcases List.mem_or_eq_of_mem_set hx with hx | hx
    · exact h x hx
    · rw [hx]; exact hr hc.1
  · exact h
theorem layF_len (ring : Nat) (laid blks : List Plc) : ∀ (k : Nat) (D : Dsk), (layF ring laid blks k D).S.length = D.S.length
  | 0, _ => rfl
  | k + 1, D => by
    rw [layF]
    split
    · exact layF_len ring laid blks k D
    · exact layF_len ring laid blks k D
theorem layF_w (ring : Nat) (laid blks : List Plc) : ∀ (k : Nat) (D : Dsk), (layF ring laid blks k D).W.length ≤ D.W.length + k
  | 0, _ => Nat.le_refl _
  | k + 1, D => by
    have h := layF_w ring laid blks k D
    rw [layF]
    split
    · show ((layF ring laid blks k D).W ++ [_]).length ≤ _
      simp
      omega
    · omega
theorem layF_ok (ring : Nat) (laid blks : List Plc) (h8 : blks.length = 8) (hs : ∀ x ∈ blks, x.2.size ≤ 16) {D : Dsk} (hD : D.ok) (hl : 10 + ring ≤ D.S.length) : ∀ (k : Nat), k ≤ 8 → (layF ring laid blks k D).ok
  | 0, _ => hD
  | k + 1, hk => by
    have h := layF_ok ring laid blks h8 hs hD hl k (by omega)
    rw [layF]
    split
    · refine Dsk.put_ok h (by rw [layF_len]; omega) ?_
      rw [List.getD_eq_getElem?_getD, List.getElem?_eq_getElem (show k < blks.length by omega), Option.getD_some]
      exact plcS_len (hs _ (List.getElem_mem _))
    · exact h
end Go.Proofs.YtleajkobmhhacaaGreatDoor
/- Contracts of functions of the given program, and plain laws on what they compute: parts of the proofs of laws. -/
namespace Go.Proofs.YtleajkobmhhacaaGreatDoor
open Go Go.GL

/-! a volume: the plain law -/
theorem pl3_pad {x : Plc} {b : Int} (h1 : 0 ≤ x.1 ∧ x.1 ≤ widest) (hb : 0 ≤ b ∧ b ≤ widest) (hs : x.2.size ≤ 16) : pl3 (padM (plcB x b), 0) = (x, (List.replicate (60 - (plcB x b).length) 0, 0)) := by
  have e : padM (plcB x b) = numB (clampN x.1) ++ (numB (clampN b) ++ (textB x.2 ++ List.replicate (60 - (plcB x b).length) 0)) := by
    unfold padM
    generalize List.replicate (60 - (plcB x b).length) (0 : UInt8) = z
    unfold plcB
    simp only [List.append_assoc]
  unfold pl3
  rw [e, numR_numB h1]
  dsimp only
  rw [numR_numB hb]
  dsimp only
  rw [textR_textB hs]
theorem plcS_ne {x : Plc} {b : Int} (h1 : 0 < x.1 ∧ x.1 ≤ widest) (hb : 0 ≤ b ∧ b ≤ widest) (hs : x.2.size ≤ 16) : plcS x b ≠ zero64 := by
  intro h
  have h2 := (openOk_sector (plcB_len (block := b) hs)).2
  rw [show sectorM (plcB x b) = plcS x b from rfl, h] at h2
  have h3 := pl3_pad (b := b) ⟨by omega, h1.2⟩ hb hs
  rw [← h2] at h3
  have h4 : (pl3 (zero64.take (zero64.length - 4), 0)).1.1 = 0 := by decide
  rw [h3] at h4
  dsimp only at h4
  omega
theorem plcOf_plcS {x : Plc} {b : Int} (h1 : 0 < x.1 ∧ x.1 ≤ widest) (hb : 0 ≤ b ∧ b ≤ widest) (hs : x.2.size ≤ 16) : plcOf (plcS x b) b = some x := by
  obtain ⟨o1, o2⟩ := openOk_sector (plcB_len (block := b) hs)
  have e : pl3 ((plcS x b).take ((plcS x b).length - 4), 0) = (x, (List.replicate (60 - (plcB x b).length) 0, 0)) := by
    unfold plcS; rw [o2]; exact pl3_pad ⟨by omega, h1.2⟩ hb hs
  unfold plcOf
  rw [if_neg (plcS_ne h1 hb hs), e]
  dsimp only
  rw [if_pos ⟨o1, rfl, h1.1, rfl⟩]
theorem plcOf_zero (b : Int) : plcOf zero64 b = some plc0 := by unfold plcOf; rw [if_pos rfl]
theorem getD_lt {l : List Plc} {b : Nat} (h : b < l.length) : l.getD b plc0 = l[b] := by rw [List.getD_eq_getElem?_getD, List.getElem?_eq_getElem h]; rfl
/-- the places that a disk tells -/
theorem plcsM_of {D : Dsk} {ring : Nat} {l : List Plc} (h8 : l.length = 8) (h : ∀ b (hb : b < l.length), plcOf (D.cur (2 + ring + b)) b = some l[b]) : plcsM D ring = some l := by
  have key : ∀ k, k ≤ 8 → plcsF D ring k (l.take (8 - k)) = some l := by
    intro k
    induction k with
    | zero => intro _; rw [plcsF, List.take_of_length_le (by omega)]
    | succ k ih =>
      intro hk
      have hl : (l.take (8 - (k + 1))).length = 8 - (k + 1) := by rw [List.length_take]; omega
      rw [plcsF, hl, h _ (by omega)]
      dsimp only
      have := ih (by omega)
      rw [show 8 - k = (8 - (k + 1)) + 1 by omega, List.take_succ_eq_append_getElem (by omega)] at this
      exact this
  have := key 8 (Nat.le_refl _)
  exact this
/-- what is taken -/
theorem takeV_get (l : List Plc) (r : Rec) (b : Nat) : (takeV l r).getD b plc0 = if r.2.1 = 1 ∧ (l.getD r.2.2.1.toNat plc0).1 < r.1 ∧ r.2.2.1.toNat = b ∧ b < l.length then (r.1, r.2.2.2.1) else l.getD b plc0 := by
  unfold takeV
  by_cases h : r.2.1 = 1 ∧ (l.getD r.2.2.1.toNat plc0).1 < r.1
  · rw [if_pos h]
    by_cases hb : r.2.2.1.toNat = b
    · subst hb
      by_cases hl : r.2.2.1.toNat < l.length
      · rw [if_pos ⟨h.1, h.2, rfl, hl⟩, List.getD_eq_getElem?_getD, List.getElem?_set_self hl]; rfl
      · rw [if_neg (fun x => hl x.2.2.2), List.set_eq_of_length_le (by omega)]
    · rw [if_neg (fun x => hb x.2.2.1), List.getD_eq_getElem?_getD, List.getElem?_set_ne hb, ← List.getD_eq_getElem?_getD]
  · rw [if_neg h, if_neg (fun x => h ⟨x.1, x.2.1⟩)]
theorem takeV_up (l : List Plc) (r : Rec) (b : Nat) : (l.getD b plc0).1 ≤ ((takeV l r).getD b plc0).1 := by
  rw [takeV_get]
  split
  · rename_i h
    obtain ⟨_, h2, h3, _⟩ := h
    rw [h3] at h2
    exact Int.le_of_lt h2
  · exact Int.le_refl _
theorem takeAll_up (h : List Held) : ∀ (l : List Plc) (b : Nat), (l.getD b plc0).1 ≤ ((takeAll l h).getD b plc0).1 := by
  induction h with
  | nil => intro l b; exact Int.le_refl _
  | cons x r ih => intro l b; exact Int.le_trans (takeV_up l x.2 b) (ih (takeV l x.2) b)
theorem takeAll_same (h : List Held) : ∀ (l : List Plc) (b : Nat), (takeAll l h).getD b plc0 = l.getD b plc0 ∨ (l.getD b plc0).1 < ((takeAll l h).getD b plc0).1 := by
  induction h with
  | nil => intro l b; exact .inl rfl
  | cons x r ih =>
    intro l b
    have h1 := ih (takeV l x.2) b
    have h2 : (takeV l x.2).getD b plc0 = l.getD b plc0 ∨ (l.getD b plc0).1 < ((takeV l x.2).getD b plc0).1 := by
      rw [takeV_get]
      split
      · rename_i hc
        obtain ⟨_, c2, c3, _⟩ := hc
        rw [c3] at c2
        exact .inr c2
      · exact .inl rfl
    have h3 : takeAll l (x :: r) = takeAll (takeV l x.2) r := rfl
    rw [h3]
    rcases h1 with h1 | h1
    · rw [h1]; exact h2
    · rcases h2 with h2 | h2
      · rw [h2] at h1; exact .inr h1
      · exact .inr (Int.lt_trans h2 h1)
theorem takeAll_ge (h : List Held) : ∀ (l : List Plc) (x : Held), x ∈ h → x.2.2.1 = 1 → x.2.2.2.1.toNat < l.length → x.2.1 ≤ ((takeAll l h).getD x.2.2.2.1.toNat plc0).1 := by
  induction h with
  | nil => intro l x hx; cases hx
  | cons y r ih =>
    intro l x hx h1 hb
    rcases List.mem_cons.1 hx with rfl | hx
    · refine Int.le_trans ?_ (takeAll_up r (takeV l x.2) _)
      rw [takeV_get]
      split
      · exact Int.le_refl _
      · rename_i h
        have : ¬ (l.getD x.2.2.2.1.toNat plc0).1 < x.2.1 := fun h2 => h ⟨h1, h2, rfl, hb⟩
        omega
    · exact ih (takeV l y.2) x hx h1 (by rw [takeV_len]; exact hb)
theorem takeV_id {l : List Plc} {r : Rec} (h : r.2.1 = 1 → r.1 ≤ (l.getD r.2.2.1.toNat plc0).1) : takeV l r = l := by
  unfold takeV
  rw [if_neg]
  rintro ⟨h1, h2⟩
  have := h h1
  omega
theorem takeAll_id (h : List Held) (l : List Plc) (hh : ∀ x ∈ h, x.2.2.1 = 1 → x.2.1 ≤ (l.getD x.2.2.2.1.toNat plc0).1) : takeAll l h = l := by
  induction h with
  | nil => rfl
  | cons y r ih =>
    show takeAll (takeV l y.2) r = l
    rw [takeV_id (hh y List.mem_cons_self)]
    exact ih (fun x hx => hh x (List.mem_cons_of_mem _ hx))
/-- what holds of each that is taken -/
theorem takeAll_all {P : Plc → Prop} (h : List Held) : ∀ (l : List Plc), (∀ x ∈ l, P x) → (∀ x ∈ h, x.2.2.1 = 1 → P (x.2.1, x.2.2.2.2.1)) → ∀ x ∈ takeAll l h, P x := by
  induction h with
  | nil => intro l hl _; exact hl
  | cons y r ih =>
    intro l hl hh
    refine ih (takeV l y.2) ?_ (fun x hx => hh x (List.mem_cons_of_mem _ hx))
    unfold takeV
    split
    · rename_i hc
      intro x hx
      rcases List.mem_or_eq_of_mem_set hx with hx | hx
      · exact hl x hx
      · rw [hx]; exact hh y List.mem_cons_self hc.1
    · exact hl
/-- what is laid -/
theorem layF_lo {ring : Nat} {laid blks : List Plc} {D : Dsk} {p : Nat} (hp : p < 2 + ring) : ∀ k, (layF ring laid blks k D).cur p = D.cur p
  | 0 => rfl
  | k + 1 => by
    rw [layF]
    split
    · show curF p _ (_ ++ [_]) = _
      rw [curF_snoc, if_neg (by dsimp only; omega)]
      exact layF_lo hp k
    · exact layF_lo hp k
theorem layF_hi {ring : Nat} {laid blks : List Plc} {D : Dsk} (b : Nat) : ∀ k, (layF ring laid blks k D).cur (2 + ring + b) = if b < k ∧ (laid.getD b plc0).1 < (blks.getD b plc0).1 then plcS (blks.getD b plc0) b else D.cur (2 + ring + b)
  | 0 => by rw [if_neg (by omega)]; rfl
  | k + 1 => by
    have ih := layF_hi (laid := laid) (blks := blks) (ring := ring) (D := D) b k
    rw [layF]
    by_cases hc : (laid.getD k plc0).1 < (blks.getD k plc0).1
    · rw [if_pos hc]
      show curF (2 + ring + b) _ (_ ++ [_]) = _
      rw [curF_snoc]
      dsimp only
      by_cases hb : k = b
      · subst hb
        rw [if_pos rfl, if_pos ⟨by omega, hc⟩]
      · rw [if_neg (by omega)]
        refine Eq.trans ih ?_
        by_cases h2 : b < k ∧ (laid.getD b plc0).1 < (blks.getD b plc0).1
        · rw [if_pos h2, if_pos ⟨by omega, h2.2⟩]
        · rw [if_neg h2, if_neg (fun h => h2 ⟨by omega, h.2⟩)]
    · rw [if_neg hc]
      refine ih.trans ?_
      by_cases h2 : b < k ∧ (laid.getD b plc0).1 < (blks.getD b plc0).1
      · rw [if_pos h2, if_pos ⟨by omega, h2.2⟩]
      · rw [if_neg h2, if_neg (fun h => h2 ⟨by rcases Nat.lt_or_ge b k with h3 | h3; exact h3; exact absurd (by rw [show b = k by omega] at h; exact h.2) hc, h.2⟩)]
theorem layF_S (ring : Nat) (laid blks : List Plc) (D : Dsk) : ∀ k, (layF ring laid blks k D).S = D.S
  | 0 => rfl
  | k + 1 => by
    rw [layF]
    split
    · exact layF_S ring laid blks D k
    · exact layF_S ring laid blks D k
end Go.Proofs.YtleajkobmhhacaaGreatDoor
/- Contracts of functions of the given program, and plain laws on what they compute: parts of the proofs of laws. -/
namespace Go.Proofs.YtleajkobmhhacaaGreatDoor
open Go Go.GL

theorem JInv.rng {J : Jrn} {D : Dsk} {f : Nat} {B : Int} (I : JInv J D f B) (hB : B + 2 ≤ widest) : J.rng := by
  have h1 := I.ring
  have h2 := I.len
  have h3 := I.hdr
  have h4 := I.bound
  have hw : widest = 1152921504606846975 := rfl
  exact ⟨⟨h1.1, h1.2.1⟩, h2, by omega, by omega, by omega⟩
theorem JInv.few {J : Jrn} {D : Dsk} {f : Nat} {B : Int} (I : JInv J D f B) : D.W.length < 10000 := by
  have h1 := I.ring
  have h2 := I.len
  have h3 := I.wlen
  omega
theorem JInv.mono {J : Jrn} {D : Dsk} {f : Nat} {B B' : Int} (I : JInv J D f B) (h : B ≤ B') : JInv J D f B' := { I with bound := Int.le_trans I.bound h }
end Go.Proofs.YtleajkobmhhacaaGreatDoor
/- Contracts of functions of the given program, and plain laws on what they compute: parts of the proofs of laws. -/
namespace Go.Proofs.YtleajkobmhhacaaGreatDoor
open Go Go.GL

/-- what holds of a volume and its disk: the first f records are fast -/
structure VInv (V : Vol) (D : Dsk) (f : Nat) (B : Int) : Prop where
  j : JInv V.J D f B
  len : 10 + V.J.ring ≤ D.S.length
  l8 : V.laid.length = 8
  laidD : ∀ b (h : b < V.laid.length), plcOf (D.S.getD (2 + V.J.ring + b) []) b = some V.laid[b]
  laidN : ∀ x ∈ V.laid, (0 ≤ x.1 ∧ x.1 < V.J.hd.first + f) ∧ x.2.size ≤ 16
  blks : V.blks = takeAll V.laid V.J.held
section
variable {V : Vol} {D : Dsk} {f : Nat} {B : Int}
theorem VInv.b8 (I : VInv V D f B) : V.blks.length = 8 := by rw [I.blks, takeAll_len]; exact I.l8
theorem heldN (J : Jrn) (D : Dsk) (f : Nat) (B : Int) (I : JInv J D f B) (p : Nat) : ∀ x ∈ J.held.take p, x.2.2.1 = 1 → (1 ≤ x.2.1 ∧ x.2.1 < J.hd.first + p) ∧ x.2.2.2.2.1.size ≤ 16 := fun x hx h1 => by
  have hr := I.right x (List.mem_of_mem_take hx)
  obtain ⟨i, hi, rfl⟩ := List.getElem_of_mem hx
  rw [List.length_take] at hi
  rw [List.getElem_take] at *
  have hs := I.seq i (by omega)
  have h0 := I.hdr.2.1
  refine ⟨⟨by omega, by omega⟩, ?_⟩
  rcases hr.2 with h | h
  · omega
  · exact h.2.2.1
/-- the blocks behind the first p records -/
theorem VInv.blkP (I : VInv V D f B) {p : Nat} (hf : f ≤ p) : ∀ x ∈ takeAll V.laid (V.J.held.take p), (0 ≤ x.1 ∧ x.1 < V.J.hd.first + p) ∧ x.2.size ≤ 16 := by
  refine takeAll_all _ _ (fun x hx => ?_) (fun x hx h1 => ?_)
  · have := I.laidN x hx
    exact ⟨⟨this.1.1, by omega⟩, this.2⟩
  · have := heldN _ _ _ _ I.j p x hx h1
    exact ⟨⟨by dsimp only; omega, this.1.2⟩, this.2⟩
theorem VInv.blkN (I : VInv V D f B) : ∀ x ∈ V.blks, (0 ≤ x.1 ∧ x.1 < V.J.next) ∧ x.2.size ≤ 16 := by
  have h := I.blkP I.j.fle
  rw [List.take_length, ← I.blks] at h
  exact h
theorem VInv.rng (I : VInv V D f B) (hB : B + 2 ≤ widest) : V.rng := ⟨I.j.rng hB, I.l8, I.b8, fun x hx => (I.blkN x hx).2⟩
theorem VInv.mono {B' : Int} (I : VInv V D f B) (h : B ≤ B') : VInv V D f B' := { I with j := I.j.mono h }
theorem VInv.keep (I : VInv V D f B) (kept : Nat → Bool) (b : Nat) : (D.settle kept).S.getD (2 + V.J.ring + b) [] = D.S.getD (2 + V.J.ring + b) [] :=
  I.j.keep kept fun i _ _ e => by have := (pos_bd I.j.ring.1 (V.J.hd.first + (i : Nat))).2.1; omega
theorem VInv.flush (I : VInv V D f B) (hB : B + 2 ≤ widest) : VInv V D.flush V.J.held.length B := by
  refine ⟨I.j.flush hB, by rw [show D.flush.S.length = D.S.length from Dsk.settle_len _ _]; exact I.len, I.l8, fun b h => ?_, fun x hx => ?_, I.blks⟩
  · rw [show D.flush.S.getD (2 + V.J.ring + b) [] = _ from I.keep _ b]; exact I.laidD b h
  · have := I.laidN x hx
    have := I.j.fle
    exact ⟨⟨by omega, by omega⟩, by omega⟩
theorem VInv.append (I : VInv V D f B) {at_ : Int} {r : Rec} {V' : Vol} {D' : Dsk} (h : appV V D at_ r = .ok (V', D')) :
    VInv V' D' f (B + 2) ∧ V'.J.ring = V.J.ring ∧ V'.J.hd = V.J.hd ∧ V'.laid = V.laid ∧ V'.blks = takeV V.blks (setSeq r V.J.next) ∧ V'.J.held = V.J.held ++ [(V.J.hd.gen, setSeq r V.J.next)] := by
  unfold appV at h
  split at h
  · rename_i J2 D2 hap
    cases h
    obtain ⟨I2, h1, h2, h3⟩ := I.j.append hap
    have hS : D'.S = D.S := by
      unfold appendM at hap
      split at hap
      · cases hap
      · split at hap
        · cases hap; rfl
        · cases hap
    refine ⟨⟨I2, ?_, I.l8, ?_, ?_, ?_⟩, h2, h1, rfl, rfl, h3⟩
    · dsimp only; rw [hS, h2]; exact I.len
    · intro b hb
      dsimp only at hb ⊢
      rw [hS, h2]; exact I.laidD b hb
    · dsimp only; rw [h1]; exact I.laidN
    · dsimp only
      rw [h3, takeAll_snoc, ← I.blks]
  · cases h
/-- nothing of the journal's sectors is changed -/
theorem JInv.swap {J : Jrn} {D D' : Dsk} (I : JInv J D f B) (hW : D.W = []) (hok : D'.ok) (hl : D'.S.length = D.S.length) (hW' : D'.W = []) (hS : ∀ p, p < 2 + J.ring → D'.S.getD p [] = D.S.getD p []) : JInv J D' f B := by
  have hp := fun a => pos_bd I.ring.1 a
  have hm := mod2 J.hd.turn I.hdr.1
  refine ⟨hok, by rw [hl]; exact I.ring, I.hdr, I.bound, I.len, I.fle, I.seq, I.right, I.gens, I.new, ?_, ?_, ?_, ?_, ?_, ?_⟩
  · rw [hS _ (by omega)]; exact I.head
  · intro h' hh
    rw [hS _ (by omega)] at hh
    exact I.other h' hh
  · intro i h hf
    rw [hS _ (hp _).2.1]
    exact I.durable i h hf
  · rw [hW', ← hW]; exact I.loose
  · intro q hq x hx
    rw [hS _ (by omega)] at hx
    exact I.stale q hq x hx
  · rw [hS _ (hp _).2.1]
    exact I.stop
theorem trimM_S {J J' : Jrn} {D D' : Dsk} {k : Int} (hW : D.W = []) (h : trimM J D k = .ok (J', D')) : (∀ p, 2 ≤ p → D'.S.getD p [] = D.S.getD p []) ∧ D'.S.length = D.S.length := by
  unfold trimM at h
  split at h
  · cases h
  split at h
  · cases h; exact ⟨fun _ _ => rfl, rfl⟩
  · cases h
    rw [flush_nil hW]
    refine ⟨fun p hp => ?_, save_len _ _⟩
    rw [(save_S D _).1, flush_nil hW, getD_set_ne]
    dsimp only
    omega
theorem VInv.lay (I : VInv V D f B) (hB : B + 2 ≤ widest) : VInv ⟨V.J, V.blks, V.blks⟩ (layV V D) V.J.held.length B ∧ (layV V D).W = [] := by
  have I1 := I.flush hB
  have hl1 : D.flush.S.length = D.S.length := Dsk.settle_len _ _
  have hlen := I1.len
  have hr := I1.rng hB
  have hb8 := I.b8
  have hwd : widest = 1152921504606846975 := rfl
  have hok := layF_ok V.J.ring V.laid V.blks hb8 hr.s I1.j.dok hlen 8 (Nat.le_refl _)
  have hfl : (layF V.J.ring V.laid V.blks 8 D.flush).S.length = D.flush.S.length := layF_len _ _ _ _ _
  have hlS : (layV V D).S.length = D.flush.S.length := by unfold layV; rw [show ∀ D : Dsk, D.flush.S.length = D.S.length from fun D => Dsk.settle_len _ _, hfl]
  have hcur : ∀ p, p < D.flush.S.length → (layV V D).S.getD p [] = (layF V.J.ring V.laid V.blks 8 D.flush).cur p := fun p hp => by
    have := Dsk.flush_cur (layF V.J.ring V.laid V.blks 8 D.flush) (i := p) (by rw [hfl]; exact hp)
    exact this
  have hcu2 : ∀ p, D.flush.cur p = D.flush.S.getD p [] := fun p => rfl
  have hlow : ∀ p, p < 2 + V.J.ring → (layV V D).S.getD p [] = D.flush.S.getD p [] := fun p hp => by
    rw [hcur p (by omega), layF_lo hp, hcu2]
  have hbn := I.blkN
  refine ⟨⟨I1.j.swap rfl (Dsk.settle_ok hok _) hlS rfl hlow, by rw [hlS]; exact hlen, hb8, ?_, ?_, ?_⟩, rfl⟩
  · intro b hb
    dsimp only at hb ⊢
    have hll : b < V.laid.length := by rw [I.l8]; omega
    rw [hcur _ (by omega), layF_hi, getD_lt hll, getD_lt hb, hcu2]
    have hx := hbn _ (List.getElem_mem hb)
    have hnx : V.J.next ≤ widest := by have := I.j.bound; have := I.j.hdr; unfold Jrn.next; omega
    have h0 := (I.laidN _ (List.getElem_mem hll)).1.1
    by_cases hc : b < 8 ∧ (V.laid[b]).1 < (V.blks[b]).1
    · rw [if_pos hc]
      exact plcOf_plcS ⟨by omega, by omega⟩ ⟨by omega, by omega⟩ hx.2
    · rw [if_neg hc, I1.laidD b hll]
      have hle : ¬ (V.laid[b]).1 < (V.blks[b]).1 := fun h => hc ⟨by omega, h⟩
      have hs := takeAll_same V.J.held V.laid b
      rw [← I.blks, getD_lt hll, getD_lt hb] at hs
      rcases hs with hs | hs
      · rw [hs]
      · exact absurd hs hle
  · intro x hx
    exact hbn x hx
  · dsimp only
    refine (takeAll_id _ _ (fun x hx h1 => ?_)).symm
    have hrb := right_block (I.j.right x hx) h1
    rw [I.blks]
    exact takeAll_ge _ _ x hx h1 (by rw [I.l8]; omega)
/-- a checkpoint -/
theorem VInv.ck (I : VInv V D f B) (hB : B + 2 ≤ widest) {upto : Int} {V' : Vol} {D' : Dsk} (h : ckV V D upto = .ok (V', D')) :
    VInv V' D' V'.J.held.length (B + 2) ∧ V'.blks = V.blks ∧ V'.J.ring = V.J.ring ∧ V'.J.next = V.J.next ∧ ∃ k, V'.J.held = V.J.held.drop k := by
  unfold ckV at h
  split at h
  · cases h
  split at h
  · rename_i J2 D2 htr
    cases h
    obtain ⟨I2, hW⟩ := I.lay hB
    obtain ⟨hS, hl⟩ := trimM_S hW htr
    have hlen := I2.len
    rcases I2.j.trim hB htr with ⟨_, rfl, rfl⟩ | ⟨g1, g2, g3, g4, g5, I3, _⟩
    · exact ⟨I2.mono (by omega), rfl, rfl, rfl, 0, rfl⟩
    · dsimp only at g1 g2 g3 g4 g5 hlen
      have hnx : J2.next = V.J.next := by
        unfold Jrn.next
        rw [g3, g4, List.length_drop]
        omega
      refine ⟨⟨I3, ?_, I2.l8, ?_, ?_, ?_⟩, rfl, g5, hnx, _, g3⟩
      · dsimp only; rw [hl, g5]; exact hlen
      · intro b hb
        dsimp only at hb ⊢
        rw [hS _ (by omega), g5]
        exact I2.laidD b hb
      · intro x hx
        have := I2.laidN x hx
        have e : J2.hd.first + (J2.held.length : Int) = V.J.next := hnx
        dsimp only
        rw [e]
        exact this
      · dsimp only
        have e : V.blks = takeAll V.blks V.J.held := I2.blks
        refine (takeAll_id _ _ (fun x hx h1 => ?_)).symm
        rw [g3] at hx
        have hx := List.mem_of_mem_drop hx
        have hrb := right_block (I.j.right x hx) h1
        have hge := takeAll_ge _ V.blks x hx h1 (by rw [I.b8]; omega)
        rw [← e] at hge
        exact hge
  · cases h
/-- BEHIND A CRASH the volume is what was laid, with the first records taken -/
theorem VInv.crash (I : VInv V D f B) (hB : B + 2 ≤ widest) (kept : Nat → Bool) : ∃ q V' D', f ≤ q ∧ q ≤ V.J.held.length ∧ openV (D.settle kept) V.J.ring = .ok (V', D') ∧ VInv V' D' q (B + 2) ∧ V'.J.ring = V.J.ring ∧ V'.laid = V.laid ∧ V'.J.held = V.J.held.take q := by
  obtain ⟨q, q1, q2, _, ho, I2⟩ := I.j.crash hB kept
  have hlen := I.len
  obtain ⟨r1, r2, r3⟩ := I.j.ring
  have hl1 : (D.settle kept).S.length = D.S.length := Dsk.settle_len _ _
  have hD : ∀ b (h : b < V.laid.length), plcOf ((saveM (D.settle kept) { V.J.hd with gen := V.J.hd.gen + 1, turn := V.J.hd.turn + 1 }).S.getD (2 + V.J.ring + b) []) b = some V.laid[b] := fun b h => by
    rw [(save_S _ _).1, flush_nil rfl, getD_set_ne (by dsimp only; omega), I.keep kept b]
    exact I.laidD b h
  have hpl : plcsM (saveM (D.settle kept) { V.J.hd with gen := V.J.hd.gen + 1, turn := V.J.hd.turn + 1 }) V.J.ring = some V.laid := plcsM_of I.l8 hD
  refine ⟨q, ⟨⟨V.J.ring, { V.J.hd with gen := V.J.hd.gen + 1, turn := V.J.hd.turn + 1 }, V.J.held.take q⟩, V.laid, takeAll V.laid (V.J.held.take q)⟩, _, q1, q2, ?_, ⟨I2, ?_, I.l8, hD, ?_, rfl⟩, rfl, rfl, rfl⟩
  · unfold openV
    rw [if_neg (by omega), ho]
    dsimp only
    rw [Int.toNat_natCast, hpl]
  · rw [save_len, hl1]; exact hlen
  · intro x hx
    have := I.laidN x hx
    dsimp only
    exact ⟨⟨by omega, by omega⟩, by omega⟩
end
/-- a volume on an empty disk -/
theorem VInv.fresh {n ring : Nat} (h1 : 1 ≤ ring) (h2 : ring ≤ 512) (h3 : 10 + ring ≤ n) (h4 : n ≤ 1024) :
    openV (Dsk.new n) ring = .ok (⟨⟨ring, ⟨1, 1, 1, 0⟩, []⟩, List.replicate 8 plc0, List.replicate 8 plc0⟩, saveM (Dsk.new n) ⟨1, 1, 1, 0⟩) ∧ VInv ⟨⟨ring, ⟨1, 1, 1, 0⟩, []⟩, List.replicate 8 plc0, List.replicate 8 plc0⟩ (saveM (Dsk.new n) ⟨1, 1, 1, 0⟩) 0 3 := by
  obtain ⟨ho, I⟩ := JInv.fresh h1 h2 (show 2 + ring ≤ n by omega) h4
  have hS : (Dsk.new n).S = List.replicate n zero64 := by
    unfold Dsk.new
    rw [show (max 0 (min (n : Int) 1024)).toNat = n by omega]
  have hl : (Dsk.new n).S.length = n := by rw [hS]; exact List.length_replicate
  have hD : ∀ b (h : b < (List.replicate 8 plc0).length), plcOf ((saveM (Dsk.new n) ⟨1, 1, 1, 0⟩).S.getD (2 + ring + b) []) b = some (List.replicate 8 plc0)[b] := fun b h => by
    have hb : b < 8 := by simpa using h
    rw [(save_S _ _).1, flush_nil rfl, getD_set_ne (by show (1 : Nat) ≠ _; omega), hS, List.getD_eq_getElem?_getD, List.getElem?_replicate, if_pos (by omega), List.getElem_replicate]
    exact plcOf_zero b
  refine ⟨?_, ⟨I, by rw [save_len, hl]; exact h3, rfl, hD, ?_, rfl⟩⟩
  · unfold openV
    rw [if_neg (by rw [hl]; omega), ho]
    dsimp only
    rw [Int.toNat_natCast, plcsM_of rfl hD]
    rfl
  · intro x hx
    rw [List.eq_of_mem_replicate hx]
    exact ⟨⟨by decide, by show (0 : Int) < 1 + ((0 : Nat) : Int); decide⟩, by decide⟩
end Go.Proofs.YtleajkobmhhacaaGreatDoor
