/- Contracts of functions of the given program, and plain laws: parts of the proofs of laws. -/
import Derived.Test.YteednjcoapmkaaaZVol7
import Derived.Test.YteednjcoapmkaaaZVol15
import Derived.Test.YteednjcoapmkaaaZVol12
/- Contracts of functions of the given program, and plain laws on what they compute: parts of the proofs of laws. -/

namespace Go.Proofs.Yteednjcoapmkaaa
open Go Go.GL

def PlcPost (l : List UInt8) (block : Int) (v : Value) : Prop := match plcOf l block with
  | some x => v = .tuple #[.agg (plcC x).toArray, .bool true]
  | none => ∃ x, v = .tuple #[.agg (plcC x).toArray, .bool false]
set_option maxHeartbeats 4000000 in
set_option maxRecDepth 10000 in
theorem placeOf_rt (a : Option Addr) (n c : Nat) (l : List UInt8) (block : Int) (hn : n = l.length) (hc : n ≤ c) (hs : n = 64) : RT G 49 [.slice a n c, .int .i64 block] (readS a n 1 (l.map byteV)) (fun v E => PlcPost l block v ∧ E = []) := by
  refine RT.enter Try.func49 rfl (by decide) rfl Try.ntmps49 rfl (fun A hu hA => ?_)
  have hE : ∀ {L}, A ∈ L → Ent L (readS a n 1 (l.map byteV)) := fun m => Ent.mem m hu hA
  repeat (first | refine GD ?_ | refine NW fun _ => ?_)
  refine WL.step rfl (OP.makeS (z := [.int .u8 0]) rfl rfl rfl rfl rfl rfl rfl rfl (by decide) (by decide) (by decide) rfl rfl (fun bz => ?_))
  have hz : repL [Value.int .u8 0] (Int.toNat 64) = zero64.map byteV := by rw [repL_bytes]; rfl
  rw [hz]
  refine WL.step rfl (OP.callRO rfl rfl (beq_ro a (some ⟨bz, 0, none⟩) n c _ _ l zero64) (Ent.and (hE MM) (Ent.own (T := 5) MM)) rfl rfl ?_)
  by_cases h0 : l = zero64
  · rw [decide_eq_true h0]
    have hdec : plcOf l block = some plc0 := by unfold plcOf; rw [if_pos h0]
    repeat (first | refine GD ?_ | refine NW fun _ => ?_)
    refine retc2 rfl rfl rfl rfl rfl (HasCut.ent (n := 2) HC).1 ⟨[], ⟨?_, rfl⟩, II⟩
    unfold PlcPost
    rw [hdec]
    rfl
  rw [decide_eq_false h0]
  have hdef : plcOf l block = if OpenOk l ∧ PlcOk l block (pl3 (l.take (l.length - 4), 0)).1 (pl3 (l.take (l.length - 4), 0)).2.2 then some (pl3 (l.take (l.length - 4), 0)).1 else none := by unfold plcOf; rw [if_neg h0]
  repeat (first | refine GD ?_ | refine NW fun _ => ?_)
  refine WL.step rfl (OP.callRT rfl rfl (open_ok a n c l hn hc (by omega)) (hE MM) rfl rfl ?_)
  rintro v E hO
  unfold OpenPost at hO
  by_cases ho : OpenOk l
  rotate_left
  · rw [if_neg ho] at hO
    obtain ⟨rfl, rfl⟩ := hO
    have hdec : plcOf l block = none := by rw [hdef, if_neg (fun h => ho h.1)]
    repeat (first | refine GD ?_ | refine NW fun _ => ?_)
    refine retc2 rfl rfl rfl rfl rfl (HasCut.ent (n := 2) HC).1 ⟨[], ⟨?_, rfl⟩, II⟩
    unfold PlcPost
    rw [hdec]
    exact ⟨plc0, rfl⟩
  rw [if_pos ho] at hO
  obtain ⟨v1, rfl, a2, cap2, rfl, rfl⟩ := hO
  have hdR : plcOf l block = if PlcOk l block (pl3 (l.take (l.length - 4), 0)).1 (pl3 (l.take (l.length - 4), 0)).2.2 then some (pl3 (l.take (l.length - 4), 0)).1 else none := by
    rw [hdef]
    by_cases hk : PlcOk l block (pl3 (l.take (l.length - 4), 0)).1 (pl3 (l.take (l.length - 4), 0)).2.2
    · rw [if_pos ⟨ho, hk⟩, if_pos hk]
    · rw [if_neg (fun h => hk h.2), if_neg hk]
  clear hdef
  have hl4 : (l.take (l.length - 4)).length < 1000000 := by rw [List.length_take]; omega
  generalize l.take (l.length - 4) = l4 at *
  refine WL.fact (Ent.ownLe (a := a2) (n := l4.length) (cap := cap2) (T := 5) (size := 1) (cs := l4.map byteV) MM) (fun hc2 => ?_)
  have hby : Bytes (ownS a2 l4.length cap2 5 1 (l4.map byteV)) l4 (.slice a2 l4.length cap2) := ⟨a2, l4.length, cap2, rfl, rfl, hc2, fun h x => read_of_own x⟩
  generalize hO : ownS a2 l4.length cap2 5 1 (l4.map byteV) = O at *
  have huO : Up O := by rw [← hO]; exact up_ownS _ _ _ _ _ _
  repeat (first | refine GD ?_ | refine NW fun _ => ?_)
  refine WL.step rfl (OP.callRT rfl rfl (read0_ok a2 l4.length cap2) (fun _ _ => trivial) rfl rfl ?_)
  rintro v E ⟨r, rfl, rfl⟩
  unfold pl3 at hdR
  repeat (first | refine GD ?_ | refine NW fun _ => ?_)
  refine WL.step rfl (OP.call (pre := [blk r [.slice a2 l4.length cap2, .int .i64 (l4, 0).2] 133, O]) rfl rfl (numR_ok r _ (l4, 0) O huO hby (by first | exact hl4 | assumption)) PS rfl rfl ?_)
  rintro _ _ ⟨rfl, vy1, hy1, rfl⟩
  have by1 := numR_bd (l4, 0)
  have hly1 : (numR (l4, 0)).2.1.length < 1000000 := by
    refine Nat.lt_of_le_of_lt by1.1 ?_
    first | exact hl4 | assumption
  generalize numR (l4, 0) = y1 at *
  obtain ⟨xy1, sy1⟩ := y1
  dsimp only at hy1 by1 hly1 hdR ⊢
  repeat (first | refine GD ?_ | refine NW fun _ => ?_)
  refine WL.step rfl (OP.call (pre := [blk r [vy1, .int .i64 sy1.2] 133, O]) rfl rfl (numR_ok r _ sy1 O huO hy1 (by first | exact hl4 | assumption)) PS rfl rfl ?_)
  rintro _ _ ⟨rfl, vy2, hy2, rfl⟩
  have by2 := numR_bd sy1
  have hly2 : (numR sy1).2.1.length < 1000000 := by
    refine Nat.lt_of_le_of_lt by2.1 ?_
    first | exact hl4 | assumption
  generalize numR sy1 = y2 at *
  obtain ⟨xy2, sy2⟩ := y2
  dsimp only at hy2 by2 hly2 hdR ⊢
  repeat (first | refine GD ?_ | refine NW fun _ => ?_)
  refine WL.step rfl (OP.call (pre := [blk r [vy2, .int .i64 sy2.2] 133, O]) rfl rfl (textR_ok r _ sy2 O huO hy2 hly2 16) PS rfl rfl ?_)
  rintro _ _ ⟨rfl, vy3, hy3, rfl⟩
  have hts := textR_size 16 sy2 (by decide)
  generalize textR 16 sy2 = y3 at *
  obtain ⟨d3, l3, e3⟩ := y3
  dsimp only at hy3 hts hdR ⊢
  repeat (first | refine GD ?_ | refine NW fun _ => ?_)
  refine WL.step rfl (OP.callRO rfl rfl (err_ro r vy3 e3) (Ent.whole (T := 133) MM) rfl rfl ?_)
  by_cases he : e3 = 0
  rotate_left
  · have hdec : plcOf l block = none := by rw [hdR, if_neg (fun h => he h.1)]
    repeat (first | refine GD ?_ | refine NW fun _ => ?_)
    refine retc2 rfl rfl rfl rfl rfl (HasCut.ent (n := 2) HC).1 ⟨[], ⟨?_, rfl⟩, II⟩
    unfold PlcPost
    rw [hdec]
    exact ⟨(xy1, d3), rfl⟩
  by_cases h1 : 0 < xy1
  rotate_left
  · have hdec : plcOf l block = none := by rw [hdR, if_neg (fun h => h1 h.2.1)]
    repeat (first | refine GD ?_ | refine NW fun _ => ?_)
    refine retc2 rfl rfl rfl rfl rfl (HasCut.ent (n := 2) HC).1 ⟨[], ⟨?_, rfl⟩, II⟩
    unfold PlcPost
    rw [hdec]
    exact ⟨(xy1, d3), rfl⟩
  have hsec := psector_rt (xy1, d3) block (by dsimp only; omega)
  repeat (first | refine GD ?_ | refine NW fun _ => ?_)
  refine WL.guardT rfl rfl rfl rfl (OP.callRT rfl rfl hsec (fun _ _ => trivial) rfl rfl ?_)
  rintro _ _ ⟨a6, cap6, rfl, rfl⟩
  repeat (first | refine GD ?_ | refine NW fun _ => ?_)
  refine WL.guardT rfl rfl rfl rfl (OP.callRO rfl rfl (beq_ro a6 a _ cap6 n c (plcS (xy1, d3) block) l) (Ent.and (Ent.own (T := 5) MM) (hE MM)) rfl rfl ?_)
  by_cases h4 : plcS (xy1, d3) block = l
  · have hdec : plcOf l block = some (xy1, d3) := by rw [hdR, if_pos ⟨he, h1, h4⟩]
    rw [decide_eq_true h4]
    repeat (first | refine GD ?_ | refine NW fun _ => ?_)
    refine retc2 rfl rfl rfl rfl rfl (HasCut.ent (n := 2) HC).1 ⟨[], ⟨?_, rfl⟩, II⟩
    unfold PlcPost
    rw [hdec]
    rfl
  · have hdec : plcOf l block = none := by rw [hdR, if_neg (fun h => h4 h.2.2)]
    rw [decide_eq_false h4]
    repeat (first | refine GD ?_ | refine NW fun _ => ?_)
    refine retc2 rfl rfl rfl rfl rfl (HasCut.ent (n := 2) HC).1 ⟨[], ⟨?_, rfl⟩, II⟩
    unfold PlcPost
    rw [hdec]
    exact ⟨(xy1, d3), rfl⟩
end Go.Proofs.Yteednjcoapmkaaa
/- Contracts of functions of the given program, and plain laws on what they compute: parts of the proofs of laws. -/

namespace Go.Proofs.Yteednjcoapmkaaa
open Go Go.GL

/-! a volume's block -/
def volC (p j : Nat) (ring : Nat) (laid blks : List Plc) : List Value :=
  [.pointer (some ⟨p, 0, none⟩), .int .i64 ring, .pointer (some ⟨j, 0, none⟩)] ++ laid.flatMap plcC ++ blks.flatMap plcC
def volB (v p j : Nat) (ring : Nat) (laid blks : List Plc) : Assn := blk v (volC p j ring laid blks) 95
theorem plcC_len (x : Plc) : (plcC x).length = 2 := rfl
theorem volC_len {p j ring : Nat} {laid blks : List Plc} (h1 : laid.length = 8) (h2 : blks.length = 8) : (volC p j ring laid blks).length = 35 := by
  unfold volC
  rw [List.length_append, List.length_append, flat_len plcC_len, flat_len plcC_len, h1, h2]
  rfl
/-- a cell of a block's place -/
theorem volC_blk {p j ring : Nat} {laid blks : List Plc} (h1 : laid.length = 8) {b i : Nat} (hb : b < blks.length) (hi : i < 2) : (volC p j ring laid blks)[19 + b * 2 + i]? = (plcC blks[b])[i]? := by
  have hl : ([Value.pointer (some ⟨p, 0, none⟩), .int .i64 ring, .pointer (some ⟨j, 0, none⟩)] ++ laid.flatMap plcC).length = 19 := by
    rw [List.length_append, flat_len plcC_len, h1]; rfl
  unfold volC
  rw [List.getElem?_append_right (by rw [hl]; omega), hl, show 19 + b * 2 + i - 19 = b * 2 + i by omega]
  exact flat_get plcC_len blks b i hb hi
theorem volC_set {p j ring : Nat} {laid blks : List Plc} (h1 : laid.length = 8) {b : Nat} (x : Plc) (hb : b < blks.length) : setMany (volC p j ring laid blks) (19 + b * 2) (plcC x) = some (volC p j ring laid (blks.set b x)) := by
  have hl : ([Value.pointer (some ⟨p, 0, none⟩), .int .i64 ring, .pointer (some ⟨j, 0, none⟩)] ++ laid.flatMap plcC).length = 19 := by
    rw [List.length_append, flat_len plcC_len, h1]; rfl
  have h := (setMany_app (plcC x) ([Value.pointer (some ⟨p, 0, none⟩), .int .i64 ring, .pointer (some ⟨j, 0, none⟩)] ++ laid.flatMap plcC) (blks.flatMap plcC) [] (b * 2) (flat_set plcC_len blks b x hb)).1
  rw [hl, List.append_nil, List.append_nil] at h
  exact h
end Go.Proofs.Yteednjcoapmkaaa
/- Contracts of functions of the given program, and plain laws on what they compute: parts of the proofs of laws. -/

namespace Go.Proofs.Yteednjcoapmkaaa
open Go Go.GL

set_option maxHeartbeats 4000000 in
set_option maxRecDepth 10000 in
theorem vtake_ok (v p j ring : Nat) (laid blks : List Plc) (r : Rec) (h1 : laid.length = 8) (h2 : blks.length = 8) (hr : r.2.1 = 1 → 0 ≤ r.2.2.1 ∧ r.2.2.1 < 8) :
    Triple G 50 [.pointer (some ⟨v, 0, none⟩), .agg (encR r).toArray] [volB v p j ring laid blks] (fun x M => x = .tuple #[] ∧ M = [volB v p j ring laid (takeV blks r)]) := by
  refine Triple.enter Try.func50 rfl (by decide) rfl Try.ntmps50 rfl (fun F => ?_)
  obtain ⟨seq, kind, block, data, num⟩ := r
  dsimp only at hr
  rw [show encR (seq, kind, block, data, num) = [.int .i64 seq, .int .i64 kind, .int .i64 block, .string data, .int .i64 num] from rfl]
  have htk : takeV blks (seq, kind, block, data, num) = if kind = 1 ∧ (blks.getD block.toNat plc0).1 < seq then blks.set block.toNat (seq, data) else blks := rfl
  rw [htk]
  by_cases hk : kind = 1
  rotate_left
  · rw [if_neg (fun h => hk h.1)]
    repeat (first | refine GD ?_ | refine NW fun _ => ?_)
    refine RD 16 16 (_) ?_
    refine WP 0 ?_
    refine VV 1 ?_
    refine WP 2 ?_
    rw [decide_eq_false hk]
    refine WP 3 ?_
    refine WP 4 ?_
    refine VF 5 ?_
    refine WP 6 ?_
    refine WP 7 ?_
    refine VF 8 ?_
    refine WP 9 ?_
    refine WP 10 ?_
    refine WP 11 ?_
    refine WP 12 ?_
    refine VF 13 ?_
    refine WP 14 ?_
    refine WP 15 ?_
    refine DN ?_
    repeat (first | refine GD ?_ | refine NW fun _ => ?_)
    exact ret0n ⟨_, ⟨rfl, rfl⟩, II⟩
  subst hk
  obtain ⟨b0, b8⟩ := hr rfl
  obtain ⟨b, rfl⟩ : ∃ b : Nat, block = b := ⟨block.toNat, by omega⟩
  rw [Int.toNat_natCast]
  have hb : b < blks.length := by omega
  rw [List.getD_eq_getElem?_getD, List.getElem?_eq_getElem hb, Option.getD_some]
  have hcl : ∀ {L} (i : Nat) (x : Value), i < 2 → (plcC blks[b])[i]? = some x → volB v p j ring laid blks ∈ L → Ent L (cellAt v (0 + 19 + b * 2 + i) x) := fun i x hi hx m => Ent.blk (T := 95) (c := volC p j ring laid blks) m (by rw [Nat.zero_add, volC_blk h1 hb hi]; exact hx)
  repeat (first | refine GD ?_ | refine NW fun _ => ?_)
  refine RD 16 16 (_) ?_
  refine WP 0 ?_
  refine VV 1 ?_
  refine WP 2 ?_
  rw [decide_eq_true (rfl : (1 : Int) = 1)]
  refine WP 3 ?_
  refine WP 4 ?_
  refine VV 5 ?_
  refine WP 6 ?_
  refine WP 7 ?_
  refine VV 8 ?_
  refine WP 9 ?_
  refine WP 10 ?_
  refine WP 11 ?_
  refine WP 12 ?_
  refine VG 13 rfl (Quiet.load (v := .int .i64 (blks[b]).1) rfl rfl rfl (.inl ⟨rfl, hcl 0 _ (by decide) rfl MM⟩)) ?_
  refine WP 14 ?_
  refine WP 15 ?_
  refine DN ?_
  by_cases hlt : (blks[b]).1 < seq
  rotate_left
  · rw [decide_eq_false hlt, if_neg (fun h => hlt h.2)]
    repeat (first | refine GD ?_ | refine NW fun _ => ?_)
    exact ret0n ⟨_, ⟨rfl, rfl⟩, II⟩
  rw [decide_eq_true hlt, if_pos ⟨rfl, hlt⟩]
  rename_i x8
  repeat (first | refine GD ?_ | refine NW fun _ => ?_)
  refine RD 11 12 (_) ?_
  refine WP 0 ?_
  refine WP 1 ?_
  refine VV 2 ?_
  refine WP 3 ?_
  refine VV 4 ?_
  refine WP 5 ?_
  refine VV 6 ?_
  refine WP 8 ?_
  refine WP 9 ?_
  refine WH.only 7 rfl rfl (by kernel_rfl) rfl (OP.buildT rfl rfl rfl rfl ⟨fun _ => II, ?_⟩)
  refine WP 10 ?_
  refine WH.only 11 rfl rfl (by kernel_rfl) rfl (OP.store (vs := plcC (seq, data)) (M := [blk x8 [.int .i64 seq, .int .i64 1, .int .i64 b, .string data, .int .i64 num] 34, volB v p j ring laid (blks.set b (seq, data)), F]) rfl rfl rfl rfl rfl rfl rfl (UpdM.there (UpdM.here (by rw [Nat.zero_add]; exact volC_set h1 (seq, data) hb))) rfl ⟨(fun h => nomatch h), ?_⟩)
  refine DN ?_
  exact ret0n ⟨_, ⟨rfl, rfl⟩, II⟩
end Go.Proofs.Yteednjcoapmkaaa
/- Contracts of functions of the given program, and plain laws on what they compute: parts of the proofs of laws. -/

namespace Go.Proofs.Yteednjcoapmkaaa
open Go Go.GL

def volT : ByteArray := ⟨#[118, 111, 108, 117, 109, 101]⟩
/-- a volume's error: of a number, or of an error -/
theorem vwrong_ok (at_ : Int) (ch : Chain) (c : Int) (h : ¬ (ch = [] ∧ c = 0)) : Triple G 46 [.int .i64 at_, valOf ch c] [chainR ch c] (IsEr (some ((volT, at_) :: ch.map Prod.snd, c))) := by
  refine Triple.enter Try.func46 rfl (by decide) rfl Try.ntmps46 rfl (fun F => ?_)
  repeat (first | refine GO ?_ | refine NW fun _ => ?_)
  refine WL.step rfl (OP.call (pre := [chainR ch c]) rfl rfl (wrapC_ok volT at_ ch c h) PS rfl rfl ?_)
  rintro v M hM
  repeat (first | refine GO ?_ | refine NW fun _ => ?_)
  exact ret1 rfl ⟨M, hM, Imp.refl _⟩
theorem vwrong0_ok (at_ : Int) (c : Int) (h : c ≠ 0) : Triple G 46 [.int .i64 at_, .iface 67 (.int .i64 c)] [] (IsEr (some ([(volT, at_)], c))) := by
  refine ⟨(vwrong_ok at_ [] c (fun x => h x.2)).enters, fun F w s => ?_⟩
  exact (vwrong_ok at_ [] c (fun x => h x.2)).calls F w (Imp.emp.sat s)
theorem vat_ro (v p j ring : Nat) (laid blks : List Plc) (block : Int) (h : 0 ≤ block ∧ block < 8) (hr : ring ≤ 512) : RO G 48 [.pointer (some ⟨v, 0, none⟩), .int .i64 block] (volB v p j ring laid blks) (.int .i64 (2 + (ring : Int) + block)) := by
  refine RO.enter Try.func48 rfl (by decide) rfl Try.ntmps48 rfl (fun A hu hA => ?_) (up_blk _ _ _)
  repeat (first | refine GO ?_ | refine NW fun _ => ?_)
  refine WL.step rfl (OP.load1 (v := .int .i64 ring) rfl rfl rfl rfl (Ent.mem MM hu (fun h x => (Ent.blk (L := [volB v p j ring laid blks]) (List.Mem.head _) rfl) h ⟨h, Hp.empty, fun _ => .inr rfl, by funext b; simp [Hp.join, Hp.empty], hA h x, trivial⟩)) rfl rfl ?_)
  repeat (first | refine GO ?_ | refine NW fun _ => ?_)
  exact ret1 rfl ⟨rfl, MM⟩
end Go.Proofs.Yteednjcoapmkaaa
/- Contracts of functions of the given program, and plain laws on what they compute: parts of the proofs of laws. -/

namespace Go.Proofs.Yteednjcoapmkaaa
open Go Go.GL

theorem volC_setL {p j ring : Nat} {laid blks : List Plc} {b : Nat} (x : Plc) (hb : b < laid.length) : setMany (volC p j ring laid blks) (3 + b * 2) (plcC x) = some (volC p j ring (laid.set b x) blks) := by
  have h := (setMany_app (plcC x) [Value.pointer (some ⟨p, 0, none⟩), .int .i64 ring, .pointer (some ⟨j, 0, none⟩)] (laid.flatMap plcC) (blks.flatMap plcC) (b * 2) (flat_set plcC_len laid b x hb)).1
  exact h
theorem volC_setA {p j ring : Nat} {laid blks : List Plc} (h1 : laid.length = 8) (h2 : blks.length = 8) : setMany (volC p j ring laid blks) 19 (laid.flatMap plcC) = some (volC p j ring laid laid) := by
  have hl : ([Value.pointer (some ⟨p, 0, none⟩), .int .i64 ring, .pointer (some ⟨j, 0, none⟩)] ++ laid.flatMap plcC).length = 19 := by
    rw [List.length_append, flat_len plcC_len, h1]; rfl
  have h := setMany_mid (laid.flatMap plcC) ([Value.pointer (some ⟨p, 0, none⟩), .int .i64 ring, .pointer (some ⟨j, 0, none⟩)] ++ laid.flatMap plcC) (blks.flatMap plcC) [] (by rw [flat_len plcC_len, flat_len plcC_len, h1, h2])
  rw [hl, List.append_nil, List.append_nil] at h
  exact h
theorem Ent.volLaid {L : List Assn} {v p j ring : Nat} {laid blks : List Plc} (m : volB v p j ring laid blks ∈ L) : Ent L (cellsAt v 3 (laid.flatMap plcC)) :=
  Ent.mem m (up_blk _ _ _) fun h ⟨fr, hb, _⟩ => ⟨_, _, fr, hb, fun i x hi => by
    have hlt := (List.getElem?_eq_some_iff.1 hi).1
    unfold volC
    rw [List.append_assoc, List.getElem?_toArray, List.getElem?_append_right (by simp), List.getElem?_append_left (by simpa using hlt)]
    simpa using hi⟩
/-- what is known of a journal that was opened -/
theorem openM_facts {D : Dsk} {n : Nat} {J : Jrn} {D2 : Dsk} (hD : D.ok) (h : openM D n = .ok (J, D2)) :
    J.ring = n ∧ J.held.length ≤ n ∧ (∀ x ∈ J.held, RightR x.2) ∧ D2.ok ∧ D2.S.length = D.S.length ∧ D2.W.length < 10000 ∧ J.rng := by
  have hwd : widest = 1152921504606846975 := rfl
  unfold openM at h
  split at h
  · cases h
  · rename_i hc
    split at h
    · cases h
    · rename_i hd he
      cases h
      obtain ⟨⟨t1, t2⟩, ⟨f1, f2⟩, ⟨g1, g2⟩⟩ := newestM_wide he
      have hn : ((n : Int)).toNat = n := Int.toNat_natCast n
      have hsl := scanM_len D n hd
      refine ⟨hn, ?_, ?_, save_ok hD (by omega) _, save_len _ _, by show (0 : Nat) < 10000; decide, ⟨⟨?_, ?_⟩, ?_, ?_, ?_, ?_⟩⟩
      · dsimp only; rw [hn]; exact hsl
      · dsimp only; rw [hn]; exact scanM_right D n hd
      · dsimp only; omega
      · dsimp only; omega
      · dsimp only; rw [hn]; exact hsl
      · dsimp only; omega
      · dsimp only; omega
      · dsimp only; omega
def vol (v p : Nat) (V : Vol) : Assn := exA (fun j : Nat => [volB v p j V.J.ring V.laid V.blks, jrn j p V.J])
theorem up_vol (v p : Nat) (V : Vol) : Up (vol v p V) := up_exA _
theorem volFold (v p : Nat) (V : Vol) (j : Nat) {N : List Assn} : Imp (volB v p j V.J.ring V.laid V.blks :: jrn j p V.J :: N) (vol v p V :: N) := Imp.fold (Ls := fun j : Nat => [volB v p j V.J.ring V.laid V.blks, jrn j p V.J]) j
def OpenVP (p : Nat) (D : Dsk) (ring : Int) (x : Value) (M : List Assn) : Prop := match openV D ring with
  | .ok (V, D') => ∃ v, x = .tuple #[.pointer (some ⟨v, 0, none⟩), .nilIface] ∧ M = [vol v p V, dsk p D']
  | .error (l, c) => ∃ e E, IsEr (some (l, c)) e E ∧ x = .tuple #[.pointer none, e] ∧ M = E
theorem vsectors_ro (r : Int) (h : -9000000000000000000 ≤ r ∧ r ≤ 9000000000000000000) : RO G 25 [.int .i64 r] (fun _ => True) (.int .i64 (2 + r + 8)) := by
  refine RO.enter Try.func25 rfl (by decide) rfl Try.ntmps25 rfl (fun A hu hA => ?_) (fun _ _ _ h => h)
  repeat (first | refine GO ?_ | refine NW fun _ => ?_)
  exact ret1 rfl ⟨rfl, MM⟩
set_option maxHeartbeats 8000000 in
set_option maxRecDepth 10000 in
theorem vopen_ok (p : Nat) (D : Dsk) (ring : Int) (hD : D.ok) (hw : D.W.length < 10000) (hr64 : -9223372036854775808 ≤ ring ∧ ring ≤ 9223372036854775807) :
    Triple G 24 [.pointer (some ⟨p, 0, none⟩), .int .i64 ring] [dsk p D] (OpenVP p D ring) := by
  refine Triple.enter Try.func24 rfl (by decide) rfl Try.ntmps24 rfl (fun F => ?_)
  have hfew := hD.few
  have hdef : openV D ring = if ring < 1 ∨ 512 < ring ∨ (D.S.length : Int) < 10 + ring then .error ([(volTx, ring)], 1)
    else match openM D ring with
    | .error c => .error ([(volTx, ring), (jrnTx, ring)], c)
    | .ok (J, D') => match plcsM D' ring.toNat with
      | none => .error ([(volTx, ring)], 4)
      | some l => .ok (⟨J, l, takeAll l J.held⟩, D') := rfl
  by_cases h1 : ring < 1
  · have hop : openV D ring = .error ([(volTx, ring)], 1) := by rw [hdef, if_pos (.inl h1)]
    repeat (first | refine GD ?_ | refine NW fun _ => ?_)
    refine WL.step rfl (OP.call (pre := []) rfl rfl (vwrong0_ok ring 1 (by decide)) PS rfl rfl ?_)
    intro x M hF
    repeat (first | refine GD ?_ | refine NW fun _ => ?_)
    refine ret2 rfl rfl ⟨M, ?_, Imp.appL II M⟩
    unfold OpenVP
    rw [hop]
    exact ⟨x, M, hF, rfl, rfl⟩
  by_cases h2 : 512 < ring
  · have hop : openV D ring = .error ([(volTx, ring)], 1) := by rw [hdef, if_pos (.inr (.inl h2))]
    repeat (first | refine GD ?_ | refine NW fun _ => ?_)
    refine WL.step rfl (OP.call (pre := []) rfl rfl (vwrong0_ok ring 1 (by decide)) PS rfl rfl ?_)
    intro x M hF
    repeat (first | refine GD ?_ | refine NW fun _ => ?_)
    refine ret2 rfl rfl ⟨M, ?_, Imp.appL II M⟩
    unfold OpenVP
    rw [hop]
    exact ⟨x, M, hF, rfl, rfl⟩
  repeat (first | refine GD ?_ | refine NW fun _ => ?_)
  refine WL.guardT rfl rfl rfl rfl (OP.callRO rfl rfl (dlen_ro p D) (Ent.at (up_dsk p D) MM) rfl rfl ?_)
  repeat (first | refine GD ?_ | refine NW fun _ => ?_)
  refine WL.guardT rfl rfl rfl rfl (OP.callRO rfl rfl (vsectors_ro ring (by omega)) (fun _ _ => trivial) rfl rfl ?_)
  by_cases h3 : (D.S.length : Int) < 2 + ring + 8
  · have hop : openV D ring = .error ([(volTx, ring)], 1) := by rw [hdef, if_pos (.inr (.inr (by omega)))]
    repeat (first | refine GD ?_ | refine NW fun _ => ?_)
    refine WL.step rfl (OP.call (pre := []) rfl rfl (vwrong0_ok ring 1 (by decide)) PS rfl rfl ?_)
    intro x M hF
    repeat (first | refine GD ?_ | refine NW fun _ => ?_)
    refine ret2 rfl rfl ⟨M, ?_, Imp.appL II M⟩
    unfold OpenVP
    rw [hop]
    exact ⟨x, M, hF, rfl, rfl⟩
  rw [if_neg (by omega)] at hdef
  have hjo := jopen_ok p D ring hD hw hr64
  unfold OpenJ at hjo
  repeat (first | refine GD ?_ | refine NW fun _ => ?_)
  refine WL.step rfl (OP.call (pre := [dsk p D]) rfl rfl hjo PS rfl rfl ?_)
  intro x M hO
  cases hq : openM D ring with
  | error c =>
    rw [hq] at hO hdef
    obtain ⟨e, E, ⟨ch, hch, rfl, rfl⟩, rfl, rfl⟩ := hO
    cases ch with
    | nil => cases hch
    | cons y ch =>
      have hop : openV D ring = .error ([(volTx, ring), (jrnTx, ring)], c) := hdef
      repeat (first | refine GD ?_ | refine NW fun _ => ?_)
      refine WL.step rfl (OP.call (pre := [chainR (y :: ch) c]) rfl rfl (vwrong_ok ring (y :: ch) c (fun h => nomatch h.1)) PS rfl rfl ?_)
      rw [hch]
      intro x M hF
      repeat (first | refine GD ?_ | refine NW fun _ => ?_)
      refine ret2 rfl rfl ⟨M, ?_, Imp.appL II M⟩
      unfold OpenVP
      rw [hop]
      exact ⟨x, M, hF, rfl, rfl⟩
  | ok y =>
    obtain ⟨J, D2⟩ := y
    rw [hq] at hO hdef
    obtain ⟨j, rfl, rfl⟩ := hO
    obtain ⟨n, rfl⟩ : ∃ n : Nat, ring = n := ⟨ring.toNat, by omega⟩
    rw [Int.toNat_natCast] at hdef
    dsimp only at hdef
    obtain ⟨hJr, hJlen, hJright, hDok, hDlen, hDfew, hJrng⟩ := openM_facts hD hq
    clear hjo
    repeat (first | refine GD ?_ | refine NW fun _ => ?_)
    rename_i v
    refine WC.imp (M := [volB v p j n (List.replicate 8 plc0) (List.replicate 8 plc0), jrn j p J, dsk p D2, F]) (Imp.refl _) ?_
    have hl8 : ∀ {k : Nat} {l : List Plc}, l.length + k = 8 → (l ++ List.replicate k plc0).length = 8 := fun h => by simp; exact h
    have hr8 : (List.replicate 8 plc0).length = 8 := rfl
    refine WC.loop (σ := Nat × List Plc) (fun s => s.2.length + s.1 = 8 ∧ plcsF D2 n s.1 s.2 = plcsM D2 n)
      (fun s => [(0, .val (.pointer (some ⟨p, 0, none⟩))), (1, .val (.int .i64 n)), (6, .val (.pointer (some ⟨j, 0, none⟩))), (8, .val (.pointer (some ⟨v, 0, none⟩))), (48, .val (.int .i64 s.2.length))])
      (fun s => [volB v p j n (s.2 ++ List.replicate s.1 plc0) (List.replicate 8 plc0), jrn j p J, dsk p D2, F]) (fun s => s.1) (8, []) ⟨rfl, rfl⟩ ⟨rfl, rfl, rfl, rfl, rfl, trivial⟩ (Imp.refl _) ?_
    rintro ⟨k, l⟩ ⟨hk, hs⟩
    dsimp only at hk hs ⊢
    cases k with
    | zero =>
      have hk8 : l.length = 8 := hk
      rw [hk8]
      have hap : l ++ List.replicate 0 plc0 = l := List.append_nil l
      rw [hap]
      have hpl : plcsM D2 n = some l := hs.symm
      rw [hpl] at hdef
      have hlc : (l.flatMap plcC).length = 16 := by rw [flat_len plcC_len, hk8]
      have h1l : ∀ l : List Plc, allOne (l.flatMap plcC) = true := fun l => by
        induction l with
        | nil => rfl
        | cons x r ih => rw [List.flatMap_cons]; simpa [plcC, allOne, one] using ih
      repeat (first | refine GD ?_ | refine NW fun _ => ?_)
      refine WL.step rfl (OP.loadA (l := l.flatMap plcC) rfl rfl rfl rfl (Ent.volLaid MM) hlc rfl rfl ?_)
      repeat (first | refine GD ?_ | refine NW fun _ => ?_)
      refine WL.step rfl (OP.store (vs := l.flatMap plcC) (M := [volB v p j n l l, jrn j p J, dsk p D2, F]) rfl rfl rfl rfl rfl (h1l l) hlc (UpdM.here (by rw [Nat.zero_add]; exact volC_setA hk8 rfl)) rfl ?_)
      repeat (first | refine GD ?_ | refine NW fun _ => ?_)
      refine WL.step rfl (OP.callRT rfl rfl (jrecords_rt j p J hJrng) (Ent.at (up_jrn j p J) MM) rfl rfl ?_)
      rintro _ _ ⟨ar, capr, rfl, rfl⟩
      dsimp only at hdef
      have hlR : ∀ x : Held, (encR x.2).length = 5 := fun _ => rfl
      repeat (first | refine GD ?_ | refine NW fun _ => ?_)
      refine WC.loop (σ := Nat) (fun i => i ≤ J.held.length)
        (fun i => [(8, .val (.pointer (some ⟨v, 0, none⟩))), (85, .val (.slice ar J.held.length capr)), (86, .val (.int .i64 J.held.length)), (87, .val (.int .i64 i))])
        (fun i => [ownS ar J.held.length capr 34 5 (J.held.flatMap (fun x => encR x.2)), volB v p j n l (takeAll l (J.held.take i)), jrn j p J, dsk p D2, F]) (fun i => J.held.length - i) 0 (Nat.zero_le _) ⟨rfl, rfl, rfl, rfl, trivial⟩ (Imp.refl _) ?_
      rintro i hi
      by_cases hlt : i < J.held.length
      rotate_left
      · have he : i = J.held.length := by omega
        subst he
        rw [List.take_length]
        repeat (first | refine GD ?_ | refine NW fun _ => ?_)
        refine ret2 rfl rfl ⟨[vol v p ⟨J, l, takeAll l J.held⟩, dsk p D2], ?_, ?_⟩
        · unfold OpenVP
          rw [hdef]
          exact ⟨v, rfl, rfl⟩
        · refine Imp.trans ?_ (volFold v p ⟨J, l, takeAll l J.held⟩ j)
          dsimp only
          rw [hJr]
          exact II
      have hsn : takeAll l (J.held.take (i + 1)) = takeV (takeAll l (J.held.take i)) J.held[i].2 := by
        rw [← List.take_append_getElem hlt, takeAll_snoc]
      have htl := (takeAll_len (J.held.take i) l).trans hk8
      have hrt := right_block (hJright _ (List.getElem_mem hlt))
      refine WC.fact (Ent.some (Ent.own (a := ar) (n := J.held.length) (cap := capr) (T := 34) (size := 5) (cs := J.held.flatMap (fun x => encR x.2)) MM) (by omega)) ?_
      rintro ⟨b, off, hx⟩
      rw [hx]
      repeat (first | refine GD ?_ | refine NW fun _ => ?_)
      refine WL.step rfl (OP.loadA (l := encR J.held[i].2) rfl rfl rfl rfl (Ent.elA hlR (Ent.own (T := 34) MM) hlt) rfl rfl rfl ?_)
      generalize J.held[i] = e at *
      obtain ⟨g, r⟩ := e
      dsimp only at hsn hrt
      repeat (first | refine GD ?_ | refine NW fun _ => ?_)
      refine WL.step rfl (OP.call (pre := [volB v p j n l (takeAll l (J.held.take i))]) rfl rfl (vtake_ok v p j n l (takeAll l (J.held.take i)) r hk8 htl hrt) PS rfl rfl ?_)
      rintro _ _ ⟨rfl, rfl⟩
      rw [← hsn]
      repeat (first | refine GD ?_ | refine NW fun _ => ?_)
      exact ⟨i + 1, by omega, by omega, ⟨rfl, rfl, rfl, rfl, trivial⟩, II⟩
    | succ k =>
      have hlt : l.length < 8 := by omega
      have hst : plcsF D2 n (k + 1) l = match plcOf (D2.cur (2 + n + l.length)) l.length with
        | some x => plcsF D2 n k (l ++ [x])
        | none => none := rfl
      rw [hst] at hs
      have h64 := Dsk.cur_64 hDok (show 2 + n + l.length < D2.S.length by omega)
      have hrd := dread_rt p D2 (2 + n + l.length) hDok (by omega)
      unfold DReadPost at hrd
      rw [show (2 + (n : Int) + l.length).toNat = 2 + n + l.length by omega] at hrd
      generalize hb : D2.cur (2 + n + l.length) = b at *
      have hpo := fun (q : Nat) => placeOf_rt (some ⟨q, 0, none⟩) 64 64 b l.length h64.symm (Nat.le_refl _) rfl
      repeat (first | refine GD ?_ | refine NW fun _ => ?_)
      refine WL.step rfl (OP.callRO rfl rfl (vat_ro v p j n _ _ l.length (by omega) (by omega)) (Ent.at (up_blk _ _ _) MM) rfl rfl ?_)
      refine WL.step rfl (OP.callRT rfl rfl hrd (Ent.at (up_dsk p D2) MM) rfl rfl ?_)
      intro _ _ hE'
      rw [if_pos (by omega)] at hE'
      obtain ⟨br, rfl, rfl⟩ := hE'
      repeat (first | refine GD ?_ | refine NW fun _ => ?_)
      refine WL.step rfl (OP.callRT rfl rfl (hpo br) (Ent.at (up_readS _ _ _ _) MM) rfl rfl ?_)
      rintro _ _ ⟨hP, rfl⟩
      unfold PlcPost at hP
      cases hx : plcOf b l.length with
      | none =>
        rw [hx] at hP hs
        obtain ⟨x, rfl⟩ := hP
        have hop : openV D n = .error ([(volTx, (n : Int))], 4) := by rw [hdef, ← hs]
        repeat (first | refine GD ?_ | refine NW fun _ => ?_)
        refine WL.step rfl (OP.call (pre := []) rfl rfl (vwrong0_ok n 4 (by decide)) PS rfl rfl ?_)
        intro x M hF
        repeat (first | refine GD ?_ | refine NW fun _ => ?_)
        refine ret2 rfl rfl ⟨M, ?_, Imp.appL II M⟩
        unfold OpenVP
        rw [hop]
        exact ⟨x, M, hF, rfl, rfl⟩
      | some x =>
        rw [hx] at hP hs
        obtain rfl := hP
        have hset : (l ++ List.replicate (k + 1) plc0).set l.length x = (l ++ [x]) ++ List.replicate k plc0 := by
          rw [List.set_append_right _ _ (Nat.le_refl _), Nat.sub_self, List.append_assoc]
          rfl
        have hstm := volC_setL (p := p) (j := j) (ring := n) (blks := List.replicate 8 plc0) x (show l.length < (l ++ List.replicate (k + 1) plc0).length by rw [hl8 hk]; exact hlt)
        rw [hset] at hstm
        have hln : (l ++ [x]).length = l.length + 1 := by simp
        repeat (first | refine GD ?_ | refine NW fun _ => ?_)
        rename_i q
        refine RD 6 7 (_) ?_
        refine WP 0 ?_
        refine WP 1 ?_
        refine VL 2 (.agg (plcC x).toArray) rfl rfl rfl rfl (.inr ⟨rfl, plcC x, rfl, rfl, Ent.whole MM⟩) ?_
        refine WP 3 ?_
        refine WP 4 ?_
        refine WP 5 ?_
        refine WH.only 6 rfl rfl (by kernel_rfl) rfl (OP.store (vs := plcC x) (M := [blk q (plcC x) 92, readS (some ⟨br, 0, none⟩) 64 1 (b.map byteV), volB v p j n ((l ++ [x]) ++ List.replicate k plc0) (List.replicate 8 plc0), jrn j p J, dsk p D2, F]) rfl rfl rfl rfl rfl rfl rfl (UpdM.there (UpdM.there (UpdM.here (by rw [Nat.zero_add]; exact hstm)))) rfl ⟨(fun h => nomatch h), ?_⟩)
        refine DN ?_
        repeat (first | refine GD ?_ | refine NW fun _ => ?_)
        exact ⟨(k, l ++ [x]), ⟨by dsimp only; omega, hs⟩, Nat.lt_succ_self k, ⟨rfl, rfl, rfl, rfl, by dsimp only; rw [hln]; rfl, trivial⟩, II⟩
end Go.Proofs.Yteednjcoapmkaaa
/- Contracts of functions of the given program, and plain laws on what they compute: parts of the proofs of laws. -/

namespace Go.Proofs.Yteednjcoapmkaaa
open Go Go.GL

theorem Ent.volAt {L : List Assn} {v p j ring : Nat} {laid blks : List Plc} (m : volB v p j ring laid blks ∈ L) {i : Nat} {x : Value} (h : (volC p j ring laid blks)[i]? = some x) : Ent L (cellAt v i x) := Ent.blk (T := 95) (c := volC p j ring laid blks) m h
set_option maxRecDepth 10000 in
theorem vthere_rt (v : Nat) (block : Int) : RT G 51 [.pointer (some ⟨v, 0, none⟩), .int .i64 block] (fun _ => True) (IsEr (if 0 ≤ block ∧ block < 8 then none else some ([(volTx, block)], 5))) := by
  refine RT.enter Try.func51 rfl (by decide) rfl Try.ntmps51 rfl (fun A hu hA => ?_)
  by_cases h0 : block < 0
  · rw [if_neg (by omega)]
    repeat (first | refine GD ?_ | refine NW fun _ => ?_)
    refine WL.step rfl (OP.call (pre := []) rfl rfl (vwrong0_ok block 5 (by decide)) PS rfl rfl ?_)
    intro x M hF
    repeat (first | refine GD ?_ | refine NW fun _ => ?_)
    exact ret1 rfl ⟨M, hF, Imp.refl _⟩
  by_cases h1 : 8 ≤ block
  · rw [if_neg (by omega)]
    repeat (first | refine GD ?_ | refine NW fun _ => ?_)
    refine WL.step rfl (OP.call (pre := []) rfl rfl (vwrong0_ok block 5 (by decide)) PS rfl rfl ?_)
    intro x M hF
    repeat (first | refine GD ?_ | refine NW fun _ => ?_)
    exact ret1 rfl ⟨M, hF, Imp.refl _⟩
  rw [if_pos (by omega)]
  repeat (first | refine GD ?_ | refine NW fun _ => ?_)
  exact ret1 rfl ⟨[], ⟨rfl, rfl⟩, Imp.refl _⟩
def VReadPost (V : Vol) (block : Int) (x : Value) (E : List Assn) : Prop := match readV V block with
  | .ok d => x = .tuple #[.string d, .nilIface] ∧ E = []
  | .error (l, c) => ∃ e, IsEr (some (l, c)) e E ∧ x = .tuple #[.string ⟨#[]⟩, e]
set_option maxRecDepth 10000 in
theorem vread_rt (v p : Nat) (V : Vol) (block : Int) (hV : V.rng) : RT G 45 [.pointer (some ⟨v, 0, none⟩), .int .i64 block] (vol v p V) (VReadPost V block) := by
  refine RT.enterEx Try.func45 rfl (by decide) rfl Try.ntmps45 rfl (fun j A hu hA => ?_)
  have hC : ∀ {L} {i : Nat} {x : Value}, (volC p j V.J.ring V.laid V.blks)[i]? = some x → A ∈ L → Ent L (cellAt v i x) := fun h m => Ent.of hu hA m (Ent.volAt (List.Mem.head _) h)
  unfold VReadPost readV
  repeat (first | refine GD ?_ | refine NW fun _ => ?_)
  refine WL.step rfl (OP.callRT rfl rfl (vthere_rt v block) (fun _ _ => trivial) rfl rfl ?_)
  by_cases hb : 0 ≤ block ∧ block < 8
  rotate_left
  · rw [if_neg hb, if_pos hb]
    rintro _ _ ⟨ch, h1, rfl, rfl⟩
    cases ch with
    | nil => cases h1
    | cons x r =>
      dsimp only [valOf]
      repeat (first | refine GD ?_ | refine NW fun _ => ?_)
      exact ret2 rfl rfl ⟨[chainR (x :: r) 5], ⟨_, ⟨x :: r, h1, rfl, rfl⟩, rfl⟩, II⟩
  rw [if_pos hb, if_neg (fun h => h hb)]
  rintro _ _ ⟨rfl, rfl⟩
  obtain ⟨b, rfl⟩ : ∃ b : Nat, block = b := ⟨block.toNat, by omega⟩
  rw [Int.toNat_natCast]
  have hb' : b < V.blks.length := by rw [hV.b8]; omega
  rw [List.getD_eq_getElem?_getD, List.getElem?_eq_getElem hb', Option.getD_some]
  dsimp only
  have hcl := volC_blk (p := p) (j := j) (ring := V.J.ring) (i := 1) hV.l8 hb' (by decide)
  repeat (first | refine GD ?_ | refine NW fun _ => ?_)
  refine WL.step rfl (OP.load1 (v := .string (V.blks[b]).2) rfl rfl rfl rfl (hC (by rw [Nat.zero_add]; exact hcl) MM) rfl rfl ?_)
  repeat (first | refine GD ?_ | refine NW fun _ => ?_)
  exact ret2 rfl rfl ⟨[], ⟨rfl, rfl⟩, Imp.refl _⟩
set_option maxRecDepth 10000 in
theorem vflush_ok (v p : Nat) (V : Vol) (D : Dsk) (hD : D.ok) (hw : D.W.length < 10000) :
    Triple G 30 [.pointer (some ⟨v, 0, none⟩)] [vol v p V, dsk p D] (fun x M => x = .tuple #[] ∧ M = [vol v p V, dsk p D.flush]) := by
  refine Triple.enter Try.func30 rfl (by decide) rfl Try.ntmps30 rfl (fun F => ?_)
  refine WC.open P1 (fun j => WC.imp (M := [volB v p j V.J.ring V.laid V.blks, jrn j p V.J, dsk p D, F]) (Imp.refl _) ?_)
  repeat (first | refine GD ?_ | refine NW fun _ => ?_)
  refine WL.step rfl (OP.call (pre := [jrn j p V.J, dsk p D]) rfl rfl (jflush_ok j p V.J D hD hw) PS rfl rfl ?_)
  rintro _ _ ⟨rfl, rfl⟩
  repeat (first | refine GD ?_ | refine NW fun _ => ?_)
  exact ret0n ⟨_, ⟨rfl, rfl⟩, Imp.trans II (volFold v p V j)⟩
set_option maxRecDepth 10000 in
theorem vnext_ro (v p : Nat) (V : Vol) (hV : V.rng) : RO G 28 [.pointer (some ⟨v, 0, none⟩)] (vol v p V) (.int .i64 V.J.next) := by
  refine RO.enterEx Try.func28 rfl (by decide) rfl Try.ntmps28 rfl (fun j A hu hA => ?_)
  have hC : ∀ {L} {i : Nat} {x : Value}, (volC p j V.J.ring V.laid V.blks)[i]? = some x → A ∈ L → Ent L (cellAt v i x) := fun h m => Ent.of hu hA m (Ent.volAt (List.Mem.head _) h)
  have hE : ∀ {L}, A ∈ L → Ent L (jrn j p V.J) := fun m => Ent.of hu hA m (Ent.at (up_jrn j p V.J) (List.Mem.tail _ (List.Mem.head _)))
  repeat (first | refine GD ?_ | refine NW fun _ => ?_)
  refine WL.step rfl (OP.load1 (v := .pointer (some ⟨j, 0, none⟩)) rfl rfl rfl rfl (hC rfl MM) rfl rfl ?_)
  repeat (first | refine GD ?_ | refine NW fun _ => ?_)
  refine WL.step rfl (OP.callRO rfl rfl (jnext_ro j p V.J hV.J) (hE MM) rfl rfl ?_)
  repeat (first | refine GD ?_ | refine NW fun _ => ?_)
  exact ret1 rfl ⟨rfl, MM⟩
end Go.Proofs.Yteednjcoapmkaaa
/- Contracts of functions of the given program, and plain laws on what they compute: parts of the proofs of laws. -/

namespace Go.Proofs.Yteednjcoapmkaaa
open Go Go.GL

def AppVP (v p : Nat) (V : Vol) (D : Dsk) (R : Except (List (ByteArray × Int) × Int) (Vol × Dsk)) (x : Value) (M : List Assn) : Prop := match R with
  | .ok (V', D') => x = .tuple #[.int .i64 V.J.next, .nilIface] ∧ M = [vol v p V', dsk p D']
  | .error (l, c) => ∃ e E, IsEr (some (l, c)) e E ∧ x = .tuple #[.int .i64 0, e] ∧ M = E ++ [vol v p V, dsk p D]
theorem appEr_ne (J : Jrn) (c : Int) : appEr J c ≠ [] := by unfold appEr; split <;> simp
set_option maxHeartbeats 4000000 in
set_option maxRecDepth 10000 in
theorem vappend_ok (v p : Nat) (V : Vol) (D : Dsk) (at_ : Int) (r : Rec) (hV : V.rng) (hl : 10 + V.J.ring ≤ D.S.length) (hw : D.W.length < 10000) (hsz : r.2.2.2.1.size < 1000000) (hr : r.2.1 = 1 → 0 ≤ r.2.2.1 ∧ r.2.2.1 < 8) :
    Triple G 52 [.pointer (some ⟨v, 0, none⟩), .int .i64 at_, .agg (encR r).toArray] [vol v p V, dsk p D] (AppVP v p V D (appV V D at_ r)) := by
  refine Triple.enter Try.func52 rfl (by decide) rfl Try.ntmps52 rfl (fun F => ?_)
  refine WC.open P1 (fun j => WC.imp (M := [volB v p j V.J.ring V.laid V.blks, jrn j p V.J, dsk p D, F]) (Imp.refl _) ?_)
  have hap := jappend_ok j p V.J D r hV.J (by omega) hw hsz
  have htk := vtake_ok v p j V.J.ring V.laid V.blks (setSeq r V.J.next) hV.l8 hV.b8 hr
  have hdef : appV V D at_ r = match appendM V.J D r with
    | .ok (J', D') => .ok (⟨J', V.laid, takeV V.blks (setSeq r V.J.next)⟩, D')
    | .error c => .error ((volTx, at_) :: appEr V.J c, c) := rfl
  have hrg : ∀ {J' D'}, appendM V.J D r = .ok (J', D') → J'.ring = V.J.ring := fun h => by
    unfold appendM at h
    split at h
    · cases h
    · split at h
      · cases h; rfl
      · cases h
  unfold AppJ at hap
  unfold AppVP
  rw [hdef]
  obtain ⟨seq, kind, block, data, num⟩ := r
  rw [show setSeq (seq, kind, block, data, num) V.J.next = (V.J.next, kind, block, data, num) from rfl] at *
  have hen : encR (seq, kind, block, data, num) = [.int .i64 seq, .int .i64 kind, .int .i64 block, .string data, .int .i64 num] := rfl
  rw [show encR (V.J.next, kind, block, data, num) = [.int .i64 V.J.next, .int .i64 kind, .int .i64 block, .string data, .int .i64 num] from rfl] at htk
  rw [hen] at *
  cases hq : appendM V.J D (seq, kind, block, data, num) with
  | error c =>
    rw [hq] at hap
    repeat (first | refine GD ?_ | refine NW fun _ => ?_)
    refine RD 5 11 (_) ?_
    refine WP 0 ?_
    refine WP 1 ?_
    refine WP 2 ?_
    refine VV 3 ?_
    refine VL 4 (.agg (encR (seq, kind, block, data, num)).toArray) rfl rfl rfl rfl (.inr ⟨rfl, encR (seq, kind, block, data, num), rfl, rfl, Ent.whole MM⟩) ?_
    refine WH.only 5 rfl rfl (by kernel_rfl) rfl (OP.call (pre := [jrn j p V.J, dsk p D]) rfl rfl hap PS rfl rfl (fun x M hM => ?_))
    obtain ⟨e, E, ⟨ch, hch, rfl, rfl⟩, rfl, rfl⟩ := hM
    cases ch with
    | nil => exact absurd hch.symm (appEr_ne V.J c)
    | cons y ch => ?_
    refine ⟨(fun h => nomatch h), ?_⟩
    refine WP 6 ?_
    refine WP 7 ?_
    refine WP 8 ?_
    refine WP 9 ?_
    refine WP 10 ?_
    refine DN ?_
    repeat (first | refine GD ?_ | refine NW fun _ => ?_)
    refine WL.step rfl (OP.call (pre := [chainR (y :: ch) c]) rfl rfl (vwrong_ok at_ (y :: ch) c (fun h => nomatch h.1)) PS rfl rfl ?_)
    rw [hch]
    rintro x M ⟨ch2, hch2, rfl, rfl⟩
    repeat (first | refine GD ?_ | refine NW fun _ => ?_)
    refine ret2 rfl rfl ⟨[chainR ch2 c] ++ [vol v p V, dsk p D], ⟨_, _, ⟨ch2, hch2, rfl, rfl⟩, rfl, rfl⟩, ?_⟩
    exact Imp.trans II ((volFold v p V j (N := [chainR ch2 c, dsk p D, F])).trans II)
  | ok y =>
    obtain ⟨J', D'⟩ := y
    rw [hq] at hap
    have hrg' := hrg hq
    repeat (first | refine GD ?_ | refine NW fun _ => ?_)
    refine RD 5 11 (_) ?_
    refine WP 0 ?_
    refine WP 1 ?_
    refine WP 2 ?_
    refine VV 3 ?_
    refine VL 4 (.agg (encR (seq, kind, block, data, num)).toArray) rfl rfl rfl rfl (.inr ⟨rfl, encR (seq, kind, block, data, num), rfl, rfl, Ent.whole MM⟩) ?_
    refine WH.only 5 rfl rfl (by kernel_rfl) rfl (OP.call (pre := [jrn j p V.J, dsk p D]) rfl rfl hap PS rfl rfl (fun x M hM => ?_))
    obtain ⟨rfl, rfl⟩ := hM
    refine ⟨(fun h => nomatch h), ?_⟩
    refine WP 6 ?_
    refine WP 7 ?_
    refine WP 8 ?_
    refine WP 9 ?_
    refine WP 10 ?_
    refine DN ?_
    repeat (first | refine GD ?_ | refine NW fun _ => ?_)
    refine WL.step rfl (OP.call (pre := [volB v p j V.J.ring V.laid V.blks]) rfl rfl htk PS rfl rfl ?_)
    rintro _ _ ⟨rfl, rfl⟩
    repeat (first | refine GD ?_ | refine NW fun _ => ?_)
    refine ret2 rfl rfl ⟨[vol v p ⟨J', V.laid, takeV V.blks (V.J.next, kind, block, data, num)⟩, dsk p D'], ⟨rfl, rfl⟩, ?_⟩
    refine Imp.trans ?_ (volFold v p ⟨J', V.laid, takeV V.blks (V.J.next, kind, block, data, num)⟩ j)
    dsimp only
    rw [hrg']
    exact II
set_option maxRecDepth 10000 in
theorem vwrite_ok (v p : Nat) (V : Vol) (D : Dsk) (block : Int) (data : ByteArray) (hV : V.rng) (hl : 10 + V.J.ring ≤ D.S.length) (hw : D.W.length < 10000) (hsz : data.size < 1000000) :
    Triple G 27 [.pointer (some ⟨v, 0, none⟩), .int .i64 block, .string data] [vol v p V, dsk p D] (AppVP v p V D (writeV V D block data)) := by
  refine Triple.enter Try.func27 rfl (by decide) rfl Try.ntmps27 rfl (fun F => ?_)
  unfold AppVP writeV
  repeat (first | refine GD ?_ | refine NW fun _ => ?_)
  refine WL.step rfl (OP.callRT rfl rfl (vthere_rt v block) (fun _ _ => trivial) rfl rfl ?_)
  by_cases hb : 0 ≤ block ∧ block < 8
  rotate_left
  · rw [if_neg hb, if_pos hb]
    rintro _ _ ⟨ch, h1, rfl, rfl⟩
    cases ch with
    | nil => cases h1
    | cons x r =>
      dsimp only [valOf]
      repeat (first | refine GD ?_ | refine NW fun _ => ?_)
      exact ret2 rfl rfl ⟨[chainR (x :: r) 5] ++ [vol v p V, dsk p D], ⟨_, _, ⟨x :: r, h1, rfl, rfl⟩, rfl, rfl⟩, II⟩
  rw [if_pos hb, if_neg (fun h => h hb)]
  rintro _ _ ⟨rfl, rfl⟩
  by_cases h16 : 16 < data.size
  · rw [if_pos h16]
    repeat (first | refine GD ?_ | refine NW fun _ => ?_)
    refine WL.step rfl (OP.call (pre := []) rfl rfl (vwrong0_ok block 1 (by decide)) PS rfl rfl ?_)
    intro x M hF
    repeat (first | refine GD ?_ | refine NW fun _ => ?_)
    exact ret2 rfl rfl ⟨M ++ [vol v p V, dsk p D], ⟨x, M, hF, rfl, rfl⟩, by rw [List.append_assoc]; exact Imp.appL II M⟩
  rw [if_neg h16]
  have hap := vappend_ok v p V D block (0, 1, block, data, 0) hV hl hw hsz (fun _ => hb)
  unfold AppVP at hap
  rw [show encR (0, 1, block, data, 0) = [.int .i64 0, .int .i64 1, .int .i64 block, .string data, .int .i64 0] from rfl] at hap
  repeat (first | refine GD ?_ | refine NW fun _ => ?_)
  refine WL.step rfl (OP.call (pre := [vol v p V, dsk p D]) rfl rfl hap PS rfl rfl ?_)
  intro x M hM
  cases hq : appV V D block (0, 1, block, data, 0) with
  | ok y =>
    rw [hq] at hM
    obtain ⟨rfl, rfl⟩ := hM
    repeat (first | refine GD ?_ | refine NW fun _ => ?_)
    exact ret2 rfl rfl ⟨_, ⟨rfl, rfl⟩, Imp.refl _⟩
  | error y =>
    rw [hq] at hM
    obtain ⟨e, E, hE, rfl, rfl⟩ := hM
    repeat (first | refine GD ?_ | refine NW fun _ => ?_)
    exact ret2 rfl rfl ⟨_, ⟨e, E, hE, rfl, rfl⟩, Imp.refl _⟩
set_option maxRecDepth 10000 in
theorem vmark_ok (v p : Nat) (V : Vol) (D : Dsk) (number : Int) (hV : V.rng) (hl : 10 + V.J.ring ≤ D.S.length) (hw : D.W.length < 10000) :
    Triple G 29 [.pointer (some ⟨v, 0, none⟩), .int .i64 number] [vol v p V, dsk p D] (AppVP v p V D (markV V D number)) := by
  refine Triple.enter Try.func29 rfl (by decide) rfl Try.ntmps29 rfl (fun F => ?_)
  unfold AppVP markV
  have hap := vappend_ok v p V D number (0, 2, 0, ⟨#[]⟩, number) hV hl hw (by show 0 < 1000000; decide) (fun h => by cases h)
  unfold AppVP at hap
  rw [show encR (0, 2, 0, ⟨#[]⟩, number) = [.int .i64 0, .int .i64 2, .int .i64 0, .string ⟨#[]⟩, .int .i64 number] from rfl] at hap
  repeat (first | refine GD ?_ | refine NW fun _ => ?_)
  refine WL.step rfl (OP.call (pre := [vol v p V, dsk p D]) rfl rfl hap PS rfl rfl ?_)
  intro x M hM
  cases hq : appV V D number (0, 2, 0, ⟨#[]⟩, number) with
  | ok y =>
    rw [hq] at hM
    obtain ⟨rfl, rfl⟩ := hM
    repeat (first | refine GD ?_ | refine NW fun _ => ?_)
    exact ret2 rfl rfl ⟨_, ⟨rfl, rfl⟩, Imp.refl _⟩
  | error y =>
    rw [hq] at hM
    obtain ⟨e, E, hE, rfl, rfl⟩ := hM
    repeat (first | refine GD ?_ | refine NW fun _ => ?_)
    exact ret2 rfl rfl ⟨_, ⟨e, E, hE, rfl, rfl⟩, Imp.refl _⟩
end Go.Proofs.Yteednjcoapmkaaa
/- Contracts of functions of the given program, and plain laws on what they compute: parts of the proofs of laws. -/

namespace Go.Proofs.Yteednjcoapmkaaa
open Go Go.GL

set_option maxHeartbeats 4000000 in
set_option maxRecDepth 10000 in
theorem vawake_ro : RO G 22 [] (fun _ => True) (.bool true) := by
  refine RO.enter Try.func22 rfl (by decide) rfl Try.ntmps22 rfl (fun A hu hA => ?_) (fun _ _ _ h => h)
  have hw : widest = 1152921504606846975 := rfl
  obtain ⟨ho, I⟩ := VInv.fresh (n := 14) (ring := 4) (by decide) (by decide) (by decide) (by decide)
  repeat (first | refine GO ?_ | refine NW fun _ => ?_)
  refine WL.step rfl (OP.callRO rfl rfl (vsectors_ro 4 (by decide)) (fun _ _ => trivial) rfl rfl ?_)
  refine WL.step rfl (OP.callRT rfl rfl (dnew_rt 14) (fun _ _ => trivial) rfl rfl ?_)
  rintro _ _ ⟨p, rfl, rfl⟩
  refine WL.step rfl (OP.call (pre := [dsk p (Dsk.new 14)]) rfl rfl (vopen_ok p (Dsk.new 14) 4 (Dsk.new_ok 14) (by decide) (by decide)) PS rfl rfl ?_)
  intro x M hO
  unfold OpenVP at hO
  have ho' : openV (Dsk.new 14) 4 = _ := ho
  rw [ho'] at hO
  obtain ⟨v, rfl, rfl⟩ := hO
  generalize saveM (Dsk.new ((14 : Nat) : Int)) ⟨1, 1, 1, 0⟩ = D at *
  repeat (first | refine GO ?_ | refine NW fun _ => ?_)
  refine WL.guardT rfl rfl rfl rfl (OP.callRO rfl rfl (vsectors_ro 4 (by decide)) (fun _ _ => trivial) rfl rfl ?_)
  repeat (first | refine GO ?_ | refine NW fun _ => ?_)
  generalize hV : (⟨⟨4, ⟨1, 1, 1, 0⟩, []⟩, List.replicate 8 plc0, List.replicate 8 plc0⟩ : Vol) = V at *
  have hJ : V.J = ⟨4, ⟨1, 1, 1, 0⟩, []⟩ := by rw [← hV]
  have hap : writeV V D 3 ⟨#[97]⟩ = .ok (⟨⟨4, ⟨1, 1, 1, 0⟩, [(1, 1, 1, 3, ⟨#[97]⟩, 0)]⟩, List.replicate 8 plc0, takeV (List.replicate 8 plc0) (1, 1, 3, ⟨#[97]⟩, 0)⟩, D.put (posM 4 1) (sectorM (bodyM 1 (1, 1, 3, ⟨#[97]⟩, 0)))) := by
    rw [← hV]
    unfold writeV
    rw [if_neg (by decide), if_neg (by decide)]
    unfold appV appendM
    rw [if_neg (by decide), if_pos (by decide)]
    rfl
  have hap2 := hap
  unfold writeV at hap2
  rw [if_neg (by decide), if_neg (by decide)] at hap2
  have I2 := (I.append hap2).1
  have hwr := vwrite_ok v p V D 3 ⟨#[97]⟩ (I.rng (by omega)) (by rw [hJ]; have := I.len; rw [hJ] at this; exact this) I.j.few (by decide)
  refine WL.step rfl (OP.call (pre := [vol v p V, dsk p D]) rfl rfl hwr PS rfl rfl ?_)
  intro x M hA'
  unfold AppVP at hA'
  rw [hap] at hA'
  obtain ⟨rfl, rfl⟩ := hA'
  have hnx : V.J.next = 1 := by rw [hJ]; rfl
  rw [hnx]
  generalize D.put (posM 4 1) (sectorM (bodyM 1 (1, 1, 3, ⟨#[97]⟩, 0))) = D' at *
  have hr2 := I2.rng (by omega)
  have hrd := vread_rt v p ⟨⟨4, ⟨1, 1, 1, 0⟩, [(1, 1, 1, 3, ⟨#[97]⟩, 0)]⟩, List.replicate 8 plc0, takeV (List.replicate 8 plc0) (1, 1, 3, ⟨#[97]⟩, 0)⟩ 3 hr2
  repeat (first | refine GD ?_ | refine NW fun _ => ?_)
  refine WL.step rfl (OP.callRT rfl rfl hrd (Ent.at (up_vol _ _ _) MM) rfl rfl ?_)
  intro x M hM
  unfold VReadPost at hM
  rw [show readV ⟨⟨4, ⟨1, 1, 1, 0⟩, [(1, 1, 1, 3, ⟨#[97]⟩, 0)]⟩, List.replicate 8 plc0, takeV (List.replicate 8 plc0) (1, 1, 3, ⟨#[97]⟩, 0)⟩ 3 = .ok ⟨#[97]⟩ from rfl] at hM
  obtain ⟨rfl, rfl⟩ := hM
  repeat (first | refine GD ?_ | refine NW fun _ => ?_)
  exact ret1 rfl ⟨rfl, MM⟩
end Go.Proofs.Yteednjcoapmkaaa
