/- Contracts of functions of the given program, and plain laws: parts of the proofs of laws. -/
import Derived.Test.YteednjcoapmkaaaGreatDoorZVol7
import Derived.Test.YteednjcoapmkaaaGreatDoorZVol19
import Derived.Test.YteednjcoapmkaaaGreatDoorZVol16
import Derived.Test.YteednjcoapmkaaaGreatDoorZVol18
/- Contracts of functions of the given program, and plain laws on what they compute: parts of the proofs of laws. -/

namespace Go.Proofs.YteednjcoapmkaaaGreatDoor
open Go Go.GL

theorem uptoV_snoc (h : List Held) (x : Held) (n : Int) : uptoV (h ++ [x]) n = if x.2.1 ≤ n then uptoV h n + 1 else uptoV h n := by
  unfold uptoV
  rw [List.filter_append]
  by_cases hx : x.2.1 ≤ n
  · rw [if_pos hx, List.filter_cons_of_pos (by simpa using hx)]
    simp
  · rw [if_neg hx, List.filter_cons_of_neg (by simpa using hx)]
    simp
set_option maxHeartbeats 2000000 in
set_option maxRecDepth 10000 in
theorem vupto_ro (v p : Nat) (V : Vol) (number : Int) (hV : V.rng) : RO G 77 [.pointer (some ⟨v, 0, none⟩), .int .i64 number] (vol v p V) (.int .i64 (uptoV V.J.held number : Nat)) := by
  refine RO.enterEx Tryz.func77 rfl (by decide) rfl Tryz.ntmps77 rfl (fun j A hu hA => ?_)
  have hC : ∀ {L} {i : Nat} {x : Value}, (volC p j V.J.ring V.laid V.blks)[i]? = some x → A ∈ L → Ent L (cellAt v i x) := fun h m => Ent.of hu hA m (Ent.volAt (List.Mem.head _) h)
  have hE : ∀ {L}, A ∈ L → Ent L (jrn j p V.J) := fun m => Ent.of hu hA m (Ent.at (up_jrn j p V.J) (List.Mem.tail _ (List.Mem.head _)))
  have hlR : ∀ x : Held, (encR x.2).length = 5 := fun _ => rfl
  have hfew : V.J.held.length ≤ 512 := by have h1 := hV.J.2; have h2 := hV.J.1; omega
  repeat (first | refine GD ?_ | refine NW fun _ => ?_)
  refine WL.step rfl (OP.load1 (v := .pointer (some ⟨j, 0, none⟩)) rfl rfl rfl rfl (hC (i := 2) rfl MM) rfl rfl ?_)
  repeat (first | refine GD ?_ | refine NW fun _ => ?_)
  refine WL.step rfl (OP.callRT rfl rfl (jrecords_rt j p V.J hV.J) (hE MM) rfl rfl ?_)
  rintro _ _ ⟨ar, capr, rfl, rfl⟩
  repeat (first | refine GD ?_ | refine NW fun _ => ?_)
  refine WC.loop (σ := Nat) (fun i => i ≤ V.J.held.length)
    (fun i => [(1, .val (.int .i64 number)), (5, .val (.int .i64 (uptoV (V.J.held.take i) number : Nat))), (12, .val (.slice ar V.J.held.length capr)), (13, .val (.int .i64 V.J.held.length)), (14, .val (.int .i64 i))])
    (fun _ => [ownS ar V.J.held.length capr 42 5 (V.J.held.flatMap (fun x => encR x.2)), A]) (fun i => V.J.held.length - i) 0 (Nat.zero_le _) ⟨rfl, rfl, rfl, rfl, rfl, trivial⟩ (Imp.refl _) ?_
  rintro i hi
  by_cases hlt : i < V.J.held.length
  rotate_left
  · have he : i = V.J.held.length := by omega
    subst he
    rw [List.take_length]
    repeat (first | refine GD ?_ | refine NW fun _ => ?_)
    exact ret1 rfl ⟨rfl, MM⟩
  have hsn : uptoV (V.J.held.take (i + 1)) number = if V.J.held[i].2.1 ≤ number then uptoV (V.J.held.take i) number + 1 else uptoV (V.J.held.take i) number := by
    rw [← List.take_append_getElem hlt, uptoV_snoc]
  have hle := uptoV_le (V.J.held.take i) number
  rw [List.length_take] at hle
  generalize uptoV (V.J.held.take i) number = m at *
  refine WC.fact (Ent.some (Ent.own (a := ar) (n := V.J.held.length) (cap := capr) (T := 42) (size := 5) (cs := V.J.held.flatMap (fun x => encR x.2)) MM) (by omega)) ?_
  rintro ⟨b, off, hx⟩
  rw [hx]
  repeat (first | refine GD ?_ | refine NW fun _ => ?_)
  refine WL.step rfl (OP.loadA (l := encR V.J.held[i].2) rfl rfl rfl rfl (Ent.elA hlR (Ent.own (T := 42) MM) hlt) rfl rfl rfl ?_)
  generalize V.J.held[i] = e at *
  obtain ⟨g, seq, kind, block, data, num⟩ := e
  dsimp only at hsn
  by_cases hc : seq ≤ number
  · rw [if_pos hc] at hsn
    repeat (first | refine GD ?_ | refine NW fun _ => ?_)
    exact ⟨i + 1, by omega, by omega, ⟨rfl, by rw [hsn]; rfl, rfl, rfl, rfl, trivial⟩, II⟩
  · rw [if_neg hc] at hsn
    repeat (first | refine GD ?_ | refine NW fun _ => ?_)
    exact ⟨i + 1, by omega, by omega, ⟨rfl, by rw [hsn]; rfl, rfl, rfl, rfl, trivial⟩, II⟩
end Go.Proofs.YteednjcoapmkaaaGreatDoor
/- Contracts of functions of the given program, and plain laws on what they compute: parts of the proofs of laws. -/

namespace Go.Proofs.YteednjcoapmkaaaGreatDoor
open Go Go.GL

theorem volC_setB {p j ring : Nat} {laid blks : List Plc} (h1 : laid.length = 8) (h2 : blks.length = 8) : setMany (volC p j ring laid blks) 3 (blks.flatMap plcC) = some (volC p j ring blks blks) := by
  exact setMany_mid (blks.flatMap plcC) [Value.pointer (some ⟨p, 0, none⟩), .int .i64 ring, .pointer (some ⟨j, 0, none⟩)] (laid.flatMap plcC) (blks.flatMap plcC) (by rw [flat_len plcC_len, flat_len plcC_len, h1, h2])
theorem volC_lay {p j ring : Nat} {laid blks : List Plc} {b i : Nat} (hb : b < laid.length) (hi : i < 2) : (volC p j ring laid blks)[3 + b * 2 + i]? = (plcC laid[b])[i]? := by
  have hl : (laid.flatMap plcC).length = laid.length * 2 := flat_len plcC_len laid
  unfold volC
  rw [List.append_assoc, List.getElem?_append_right (by show 3 ≤ _; omega), List.getElem?_append_left (by rw [hl]; show 3 + b * 2 + i - 3 < _; omega)]
  simp only [List.length_cons, List.length_nil]
  rw [show 3 + b * 2 + i - (0 + 1 + 1 + 1) = b * 2 + i by omega]
  exact flat_get plcC_len laid b i hb hi
theorem Ent.volBlks {L : List Assn} {v p j ring : Nat} {laid blks : List Plc} (h1 : laid.length = 8) (m : volB v p j ring laid blks ∈ L) : Ent L (cellsAt v 19 (blks.flatMap plcC)) :=
  Ent.mem m (up_blk _ _ _) fun h ⟨fr, hb, _⟩ => ⟨_, _, fr, hb, fun i x hi => by
    have hl : ([Value.pointer (some ⟨p, 0, none⟩), .int .i64 ring, .pointer (some ⟨j, 0, none⟩)] ++ laid.flatMap plcC).length = 19 := by
      rw [List.length_append, flat_len plcC_len, h1]; rfl
    unfold volC
    rw [List.getElem?_toArray, List.getElem?_append_right (by rw [hl]; omega), hl, Nat.add_sub_cancel_left]
    exact hi⟩
theorem trimM_ok {J : Jrn} {D : Dsk} {k : Nat} (h : k ≤ J.held.length) : ∃ J' D', trimM J D k = .ok (J', D') ∧ J'.ring = J.ring := by
  unfold trimM
  rw [if_neg (by omega)]
  split
  · exact ⟨_, _, rfl, rfl⟩
  · exact ⟨_, _, rfl, rfl⟩
def CkVP (v p : Nat) (V : Vol) (D : Dsk) (upto : Int) (x : Value) (M : List Assn) : Prop := match ckV V D upto with
  | .ok (V', D') => x = .nilIface ∧ M = [vol v p V', dsk p D']
  | .error (l, c) => ∃ E, IsEr (some (l, c)) x E ∧ M = E ++ [vol v p V, dsk p D]
set_option maxHeartbeats 4000000 in
set_option maxRecDepth 10000 in
theorem vcheck_ok (v p : Nat) (V : Vol) (D : Dsk) (upto : Int) (hV : V.rng) (hD : D.ok) (hl : 10 + V.J.ring ≤ D.S.length) (hw : D.W.length < 9000) :
    Triple G 49 [.pointer (some ⟨v, 0, none⟩), .int .i64 upto] [vol v p V, dsk p D] (CkVP v p V D upto) := by
  refine Triple.enter Tryz.func49 rfl (by decide) rfl Tryz.ntmps49 rfl (fun F => ?_)
  have hdef : ckV V D upto = if upto < 0 ∨ V.J.next ≤ upto then .error ([(volTx, upto)], 5)
    else match trimM V.J (layV V D) (uptoV V.J.held upto) with
      | .ok (J', D') => .ok (⟨J', V.blks, V.blks⟩, D')
      | .error c => .error ([(jrnTx, (uptoV V.J.held upto : Nat))], c) := rfl
  unfold CkVP
  rw [hdef]
  by_cases h1 : upto < 0
  · rw [if_pos (.inl h1)]
    repeat (first | refine GD ?_ | refine NW fun _ => ?_)
    refine WL.step rfl (OP.call (pre := []) rfl rfl (vwrong0_ok upto 5 (by decide)) PS rfl rfl ?_)
    intro x M hF
    repeat (first | refine GD ?_ | refine NW fun _ => ?_)
    exact ret1 rfl ⟨M ++ [vol v p V, dsk p D], ⟨M, hF, rfl⟩, by rw [List.append_assoc]; exact Imp.appL II M⟩
  repeat (first | refine GD ?_ | refine NW fun _ => ?_)
  refine WL.guardT rfl rfl rfl rfl (OP.callRO rfl rfl (vnext_ro v p V hV) (Ent.at (up_vol v p V) MM) rfl rfl ?_)
  by_cases h2 : V.J.next ≤ upto
  · rw [if_pos (.inr h2)]
    repeat (first | refine GD ?_ | refine NW fun _ => ?_)
    refine WL.step rfl (OP.call (pre := []) rfl rfl (vwrong0_ok upto 5 (by decide)) PS rfl rfl ?_)
    intro x M hF
    repeat (first | refine GD ?_ | refine NW fun _ => ?_)
    exact ret1 rfl ⟨M ++ [vol v p V, dsk p D], ⟨M, hF, rfl⟩, by rw [List.append_assoc]; exact Imp.appL II M⟩
  rw [if_neg (fun h => h.elim h1 h2)]
  obtain ⟨J', D', htr, hrg⟩ := trimM_ok (D := layV V D) (uptoV_le V.J.held upto)
  rw [htr]
  refine WL.open P1 (fun j => WL.imp (M := [volB v p j V.J.ring V.laid V.blks, jrn j p V.J, dsk p D, F]) (Imp.refl _) ?_)
  have hJ := hV.J
  have hfl : D.flush.ok := Dsk.settle_ok hD _
  have hfs : D.flush.S.length = D.S.length := Dsk.settle_len D _
  have hfw : D.flush.W.length = 0 := rfl
  repeat (first | refine GD ?_ | refine NW fun _ => ?_)
  refine WL.step rfl (OP.call (pre := [jrn j p V.J, dsk p D]) rfl rfl (jflush_ok j p V.J D hD (by omega)) PS rfl rfl ?_)
  rintro _ _ ⟨rfl, rfl⟩
  have hlc : (V.blks.flatMap plcC).length = 16 := by rw [flat_len plcC_len, hV.b8]
  have h1l : ∀ l : List Plc, allOne (l.flatMap plcC) = true := fun l => by
    induction l with
    | nil => rfl
    | cons x r ih => rw [List.flatMap_cons]; simpa [plcC, allOne, one] using ih
  repeat (first | refine GD ?_ | refine NW fun _ => ?_)
  refine WL.step rfl (OP.loadA (l := V.blks.flatMap plcC) rfl rfl rfl rfl (Ent.volBlks hV.l8 MM) hlc rfl rfl ?_)
  repeat (first | refine GD ?_ | refine NW fun _ => ?_)
  refine WC.loop (σ := Nat) (fun k => k ≤ 8)
    (fun k => [(0, .val (.pointer (some ⟨v, 0, none⟩))), (1, .val (.int .i64 upto)), (30, .val (.agg (V.blks.flatMap plcC).toArray)), (31, .val (.int .i64 k))])
    (fun k => [volB v p j V.J.ring V.laid V.blks, jrn j p V.J, dsk p (layF V.J.ring V.laid V.blks k D.flush), F]) (fun k => 8 - k) 0 (Nat.zero_le _) ⟨rfl, rfl, rfl, rfl, trivial⟩ II ?_
  rintro k hk
  have hko := layF_ok V.J.ring V.laid V.blks hV.b8 hV.s hfl (by omega) k hk
  have hkl := layF_len V.J.ring V.laid V.blks k D.flush
  have hkw := layF_w V.J.ring V.laid V.blks k D.flush
  by_cases hlt : k < 8
  rotate_left
  · have he : k = 8 := by omega
    subst he
    have hlay8 : layV V D = (layF V.J.ring V.laid V.blks 8 D.flush).flush := rfl
    rw [hlay8] at htr
    generalize layF V.J.ring V.laid V.blks 8 D.flush = D8 at *
    have hV8 : (⟨V.J, V.blks, V.blks⟩ : Vol).rng := ⟨hV.J, hV.b8, hV.b8, hV.s⟩
    have hf8 : D8.flush.ok := Dsk.settle_ok hko _
    have hs8 : D8.flush.S.length = D8.S.length := Dsk.settle_len D8 _
    have hw8 : D8.flush.W.length = 0 := rfl
    have htj := jtrim_ok j p V.J D8.flush (uptoV V.J.held upto : Nat) hV.J hf8 (by omega) (by omega)
    unfold TrimJ at htj
    rw [htr] at htj
    have hup := vupto_ro v p ⟨V.J, V.blks, V.blks⟩ upto hV8
    repeat (first | refine GD ?_ | refine NW fun _ => ?_)
    refine WL.step rfl (OP.loadA (l := V.blks.flatMap plcC) rfl rfl rfl rfl (Ent.volBlks hV.l8 MM) hlc rfl rfl ?_)
    repeat (first | refine GD ?_ | refine NW fun _ => ?_)
    refine WL.step rfl (OP.store (vs := V.blks.flatMap plcC) (M := [volB v p j V.J.ring V.blks V.blks, jrn j p V.J, dsk p D8, F]) rfl rfl rfl rfl rfl (h1l _) hlc (UpdM.here (by rw [Nat.zero_add]; exact volC_setB hV.l8 hV.b8)) rfl ?_)
    repeat (first | refine GD ?_ | refine NW fun _ => ?_)
    refine WL.step rfl (OP.call (pre := [dsk p D8]) rfl rfl (dflush_ok p D8 hko (by omega)) PS rfl rfl ?_)
    rintro _ _ ⟨rfl, rfl⟩
    repeat (first | refine GD ?_ | refine NW fun _ => ?_)
    refine RD 7 9 (_) ?_
    refine WP 0 ?_
    refine WP 1 ?_
    refine WP 2 ?_
    refine VV 3 ?_
    refine WP 4 ?_
    refine WP 5 ?_
    refine WH.only 6 rfl rfl (by kernel_rfl) rfl (OP.callRO rfl rfl (hup) (Ent.exI (Ls := fun j : Nat => [volB v p j V.J.ring V.blks V.blks, jrn j p V.J]) j II) rfl rfl ⟨fun _ => II, ?_⟩)
    refine WH.only 7 rfl rfl (by kernel_rfl) rfl (OP.call (pre := [jrn j p V.J, dsk p D8.flush]) rfl rfl htj PS rfl rfl (fun x M hM => ?_))
    obtain ⟨rfl, rfl⟩ := hM
    refine ⟨(fun h => nomatch h), ?_⟩
    refine WP 8 ?_
    refine DN ?_
    repeat (first | refine GD ?_ | refine NW fun _ => ?_)
    refine ret1 rfl ⟨[vol v p ⟨J', V.blks, V.blks⟩, dsk p D'], ⟨rfl, rfl⟩, ?_⟩
    refine Imp.trans ?_ (volFold v p ⟨J', V.blks, V.blks⟩ j)
    dsimp only
    rw [hrg]
    exact II
  have hlb : k < V.blks.length := by rw [hV.b8]; exact hlt
  have hll : k < V.laid.length := by rw [hV.l8]; exact hlt
  have hst : layF V.J.ring V.laid V.blks (k + 1) D.flush = if (V.laid[k]).1 < (V.blks[k]).1 then (layF V.J.ring V.laid V.blks k D.flush).put (2 + V.J.ring + k) (plcS V.blks[k] k) else layF V.J.ring V.laid V.blks k D.flush := by
    rw [layF, List.getD_eq_getElem?_getD, List.getD_eq_getElem?_getD, List.getElem?_eq_getElem hlb, List.getElem?_eq_getElem hll, Option.getD_some, Option.getD_some]
  have hlay := volC_lay (p := p) (j := j) (ring := V.J.ring) (blks := V.blks) (i := 0) hll (by decide)
  have hsz := hV.s _ (List.getElem_mem hlb)
  repeat (first | refine GD ?_ | refine NW fun _ => ?_)
  refine WL.step rfl (OP.indexA (vs := plcC V.blks[k]) rfl rfl rfl rfl rfl rfl rfl hlt (flat_cut plcC_len V.blks k hlb).symm rfl rfl ?_)
  repeat (first | refine GD ?_ | refine NW fun _ => ?_)
  refine RD 10 10 (_) ?_
  refine WP 0 ?_
  refine VV 1 ?_
  refine WP 2 ?_
  refine WP 3 ?_
  refine WP 4 ?_
  refine WP 5 ?_
  refine WP 6 ?_
  refine WP 7 ?_
  refine VL 8 (.int .i64 (V.laid[k]).1) rfl rfl rfl rfl (.inl ⟨rfl, Ent.volAt MM hlay⟩) ?_
  refine WP 9 ?_
  refine DN ?_
  by_cases hc : (V.laid[k]).1 < (V.blks[k]).1
  rotate_left
  · rw [if_neg hc] at hst
    rw [decide_eq_false hc]
    repeat (first | refine GD ?_ | refine NW fun _ => ?_)
    exact ⟨k + 1, by omega, by omega, ⟨rfl, rfl, rfl, rfl, trivial⟩, by rw [hst]; exact II⟩
  rw [if_pos hc] at hst
  rw [decide_eq_true hc]
  generalize layF V.J.ring V.laid V.blks k D.flush = Dk at *
  have hwr := fun a cap => dwrite_ok p Dk (2 + V.J.ring + k : Nat) (plcS V.blks[k] k) a cap (by omega) (by rw [plcS_len hsz]; decide)
  have hwd : ((2 + V.J.ring + k : Nat) : Int) = 2 + (V.J.ring : Int) + k := by omega
  rw [hwd] at hwr
  have hps := psector_rt V.blks[k] k hsz
  have hS64 := plcS_len (block := k) hsz
  generalize plcS V.blks[k] k = S at *
  have hpl : plcC V.blks[k] = [.int .i64 (V.blks[k]).1, .string (V.blks[k]).2] := rfl
  repeat (first | refine GD ?_ | refine NW fun _ => ?_)
  refine RD 10 11 (_) ?_
  refine WP 0 ?_
  refine WP 1 ?_
  refine WP 2 ?_
  refine VV 3 ?_
  refine WP 4 ?_
  refine WP 5 ?_
  refine VL 7 (.agg (plcC V.blks[k]).toArray) rfl rfl rfl rfl (.inr ⟨rfl, plcC V.blks[k], rfl, rfl, Ent.whole MM⟩) ?_
  refine WP 8 ?_
  refine WH.only 6 rfl rfl (by kernel_rfl) rfl (OP.callRO rfl rfl (vat_ro v p j V.J.ring V.laid V.blks k (by omega) (by have := hV.J.1; omega)) (Ent.at (up_blk _ _ _) MM) rfl rfl ⟨fun _ => II, ?_⟩)
  refine WH.only 9 rfl rfl (by kernel_rfl) rfl (OP.callRT rfl rfl hps (fun _ _ => trivial) rfl rfl (fun x E hE' => ?_))
  obtain ⟨a9, cap9, rfl, rfl⟩ := hE'
  refine ⟨fun _ => II, ?_⟩
  refine WH.only 10 rfl rfl (by kernel_rfl) rfl (OP.call (pre := [dsk p Dk, ownS a9 S.length cap9 5 1 (S.map byteV)]) rfl rfl (hwr a9 cap9) PS rfl rfl (fun x M hM => ?_))
  unfold WrPost at hM
  rw [if_pos ⟨by omega, hS64⟩, ← hwd, Int.toNat_natCast] at hM
  obtain ⟨rfl, rfl⟩ := hM
  refine ⟨(fun h => nomatch h), ?_⟩
  refine DN ?_
  repeat (first | refine GD ?_ | refine NW fun _ => ?_)
  exact ⟨k + 1, by omega, by omega, ⟨rfl, rfl, rfl, rfl, trivial⟩, by rw [hst]; exact II⟩
end Go.Proofs.YteednjcoapmkaaaGreatDoor
/- Contracts of functions of the given program, and plain laws on what they compute: parts of the proofs of laws. -/

namespace Go.Proofs.YteednjcoapmkaaaGreatDoor
open Go Go.GL

theorem JInv.rng {J : Jrn} {D : Dsk} {f : Nat} {B : Int} (I : JInv J D f B) (hB : B + 2 ≤ widest) : J.rng := by
  have h1 := I.ring
  have h2 := I.len
  have h3 := I.hdr
  have h4 := I.bound
  have hw : widest = 1152921504606846975 := rfl
  exact ⟨⟨h1.1, h1.2.1⟩, h2, by omega, by omega, by omega⟩
theorem JInv.few {J : Jrn} {D : Dsk} {f : Nat} {B : Int} (I : JInv J D f B) : D.W.length < 10000 := by
  have h1 := I.ring
  have h2 := I.len
  have h3 := I.wlen
  omega
theorem JInv.mono {J : Jrn} {D : Dsk} {f : Nat} {B B' : Int} (I : JInv J D f B) (h : B ≤ B') : JInv J D f B' := { I with bound := Int.le_trans I.bound h }
set_option maxHeartbeats 4000000 in
set_option maxRecDepth 10000 in
theorem jawake_ro : RO G 6 [] (fun _ => True) (.bool true) := by
  refine RO.enter Tryz.func6 rfl (by decide) rfl Tryz.ntmps6 rfl (fun A hu hA => ?_) (fun _ _ _ h => h)
  have hw : widest = 1152921504606846975 := rfl
  obtain ⟨ho, I⟩ := JInv.fresh (n := 6) (ring := 4) (by decide) (by decide) (by decide) (by decide)
  repeat (first | refine GO ?_ | refine NW fun _ => ?_)
  refine WL.step rfl (OP.callRT rfl rfl (dnew_rt 6) (fun _ _ => trivial) rfl rfl ?_)
  rintro _ _ ⟨p, rfl, rfl⟩
  refine WL.step rfl (OP.call (pre := [dsk p (Dsk.new 6)]) rfl rfl (jopen_ok p (Dsk.new 6) 4 (Dsk.new_ok 6) (by decide) (by decide)) PS rfl rfl ?_)
  intro v M hO
  unfold OpenJ at hO
  have ho' : openM (Dsk.new 6) 4 = _ := ho
  rw [ho'] at hO
  obtain ⟨j, rfl, rfl⟩ := hO
  generalize saveM (Dsk.new ((6 : Nat) : Int)) ⟨1, 1, 1, 0⟩ = D at *
  repeat (first | refine GO ?_ | refine NW fun _ => ?_)
  have hap : appendM ⟨4, ⟨1, 1, 1, 0⟩, []⟩ D (0, 2, 0, ⟨#[]⟩, 3) = .ok (⟨4, ⟨1, 1, 1, 0⟩, [(1, 1, 2, 0, ⟨#[]⟩, 3)]⟩, D.put (posM 4 1) (sectorM (bodyM 1 (1, 2, 0, ⟨#[]⟩, 3)))) := by
    unfold appendM
    rw [if_neg (by decide), if_pos (by decide)]
    rfl
  have hI := (I.append hap).1
  refine WL.step rfl (OP.call (pre := [jrn j p ⟨4, ⟨1, 1, 1, 0⟩, []⟩, dsk p D]) rfl rfl (jappend_ok j p _ D (0, 2, 0, ⟨#[]⟩, 3) (I.rng (by omega)) I.ring.2.2 I.few (by decide)) PS rfl rfl ?_)
  intro v M hA'
  unfold AppJ at hA'
  rw [hap] at hA'
  obtain ⟨rfl, rfl⟩ := hA'
  generalize D.put (posM 4 1) (sectorM (bodyM 1 (1, 2, 0, ⟨#[]⟩, 3))) = D' at *
  have hr := hI.rng (by omega)
  repeat (first | refine GD ?_ | refine NW fun _ => ?_)
  refine WL.guardT rfl rfl rfl rfl (OP.callRO rfl rfl (jnext_ro j p _ hr) (Ent.at (up_jrn _ _ _) MM) rfl rfl ?_)
  repeat (first | refine GD ?_ | refine NW fun _ => ?_)
  refine WL.guardT rfl rfl rfl rfl (OP.callRO rfl rfl (jroom_ro j p _ hr) (Ent.at (up_jrn _ _ _) MM) rfl rfl ?_)
  repeat (first | refine GD ?_ | refine NW fun _ => ?_)
  refine WL.guardT rfl rfl rfl rfl (OP.callRT rfl rfl (jrecords_rt j p _ hr) (Ent.at (up_jrn _ _ _) MM) rfl rfl ?_)
  rintro _ _ ⟨a, cap, rfl, rfl⟩
  repeat (first | refine GD ?_ | refine NW fun _ => ?_)
  exact ret1 rfl ⟨rfl, MM⟩
end Go.Proofs.YteednjcoapmkaaaGreatDoor
/- Contracts of functions of the given program, and plain laws on what they compute: parts of the proofs of laws. -/
namespace Go.Proofs.YteednjcoapmkaaaGreatDoor
open Go Go.GL

/-- what holds of a volume and its disk: the first f records are fast -/
structure VInv (V : Vol) (D : Dsk) (f : Nat) (B : Int) : Prop where
  j : JInv V.J D f B
  len : 10 + V.J.ring ≤ D.S.length
  l8 : V.laid.length = 8
  laidD : ∀ b (h : b < V.laid.length), plcOf (D.S.getD (2 + V.J.ring + b) []) b = some V.laid[b]
  laidN : ∀ x ∈ V.laid, (0 ≤ x.1 ∧ x.1 < V.J.hd.first + f) ∧ x.2.size ≤ 16
  blks : V.blks = takeAll V.laid V.J.held
section
variable {V : Vol} {D : Dsk} {f : Nat} {B : Int}
theorem VInv.b8 (I : VInv V D f B) : V.blks.length = 8 := by rw [I.blks, takeAll_len]; exact I.l8
theorem heldN (J : Jrn) (D : Dsk) (f : Nat) (B : Int) (I : JInv J D f B) (p : Nat) : ∀ x ∈ J.held.take p, x.2.2.1 = 1 → (1 ≤ x.2.1 ∧ x.2.1 < J.hd.first + p) ∧ x.2.2.2.2.1.size ≤ 16 := fun x hx h1 => by
  have hr := I.right x (List.mem_of_mem_take hx)
  obtain ⟨i, hi, rfl⟩ := List.getElem_of_mem hx
  rw [List.length_take] at hi
  rw [List.getElem_take] at *
  have hs := I.seq i (by omega)
  have h0 := I.hdr.2.1
  refine ⟨⟨by omega, by omega⟩, ?_⟩
  rcases hr.2 with h | h
  · omega
  · exact h.2.2.1
/-- the blocks behind the first p records -/
theorem VInv.blkP (I : VInv V D f B) {p : Nat} (hf : f ≤ p) : ∀ x ∈ takeAll V.laid (V.J.held.take p), (0 ≤ x.1 ∧ x.1 < V.J.hd.first + p) ∧ x.2.size ≤ 16 := by
  refine takeAll_all _ _ (fun x hx => ?_) (fun x hx h1 => ?_)
  · have := I.laidN x hx
    exact ⟨⟨this.1.1, by omega⟩, this.2⟩
  · have := heldN _ _ _ _ I.j p x hx h1
    exact ⟨⟨by dsimp only; omega, this.1.2⟩, this.2⟩
theorem VInv.blkN (I : VInv V D f B) : ∀ x ∈ V.blks, (0 ≤ x.1 ∧ x.1 < V.J.next) ∧ x.2.size ≤ 16 := by
  have h := I.blkP I.j.fle
  rw [List.take_length, ← I.blks] at h
  exact h
theorem VInv.rng (I : VInv V D f B) (hB : B + 2 ≤ widest) : V.rng := ⟨I.j.rng hB, I.l8, I.b8, fun x hx => (I.blkN x hx).2⟩
theorem VInv.mono {B' : Int} (I : VInv V D f B) (h : B ≤ B') : VInv V D f B' := { I with j := I.j.mono h }
theorem VInv.keep (I : VInv V D f B) (kept : Nat → Bool) (b : Nat) : (D.settle kept).S.getD (2 + V.J.ring + b) [] = D.S.getD (2 + V.J.ring + b) [] :=
  I.j.keep kept fun i _ _ e => by have := (pos_bd I.j.ring.1 (V.J.hd.first + (i : Nat))).2.1; omega
theorem VInv.flush (I : VInv V D f B) (hB : B + 2 ≤ widest) : VInv V D.flush V.J.held.length B := by
  refine ⟨I.j.flush hB, by rw [show D.flush.S.length = D.S.length from Dsk.settle_len _ _]; exact I.len, I.l8, fun b h => ?_, fun x hx => ?_, I.blks⟩
  · rw [show D.flush.S.getD (2 + V.J.ring + b) [] = _ from I.keep _ b]; exact I.laidD b h
  · have := I.laidN x hx
    have := I.j.fle
    exact ⟨⟨by omega, by omega⟩, by omega⟩
theorem VInv.append (I : VInv V D f B) {at_ : Int} {r : Rec} {V' : Vol} {D' : Dsk} (h : appV V D at_ r = .ok (V', D')) :
    VInv V' D' f (B + 2) ∧ V'.J.ring = V.J.ring ∧ V'.J.hd = V.J.hd ∧ V'.laid = V.laid ∧ V'.blks = takeV V.blks (setSeq r V.J.next) ∧ V'.J.held = V.J.held ++ [(V.J.hd.gen, setSeq r V.J.next)] := by
  unfold appV at h
  split at h
  · rename_i J2 D2 hap
    cases h
    obtain ⟨I2, h1, h2, h3⟩ := I.j.append hap
    have hS : D'.S = D.S := by
      unfold appendM at hap
      split at hap
      · cases hap
      · split at hap
        · cases hap; rfl
        · cases hap
    refine ⟨⟨I2, ?_, I.l8, ?_, ?_, ?_⟩, h2, h1, rfl, rfl, h3⟩
    · dsimp only; rw [hS, h2]; exact I.len
    · intro b hb
      dsimp only at hb ⊢
      rw [hS, h2]; exact I.laidD b hb
    · dsimp only; rw [h1]; exact I.laidN
    · dsimp only
      rw [h3, takeAll_snoc, ← I.blks]
  · cases h
/-- nothing of the journal's sectors is changed -/
theorem JInv.swap {J : Jrn} {D D' : Dsk} (I : JInv J D f B) (hW : D.W = []) (hok : D'.ok) (hl : D'.S.length = D.S.length) (hW' : D'.W = []) (hS : ∀ p, p < 2 + J.ring → D'.S.getD p [] = D.S.getD p []) : JInv J D' f B := by
  have hp := fun a => pos_bd I.ring.1 a
  have hm := mod2 J.hd.turn I.hdr.1
  refine ⟨hok, by rw [hl]; exact I.ring, I.hdr, I.bound, I.len, I.fle, I.seq, I.right, I.gens, I.new, ?_, ?_, ?_, ?_, ?_, ?_⟩
  · rw [hS _ (by omega)]; exact I.head
  · intro h' hh
    rw [hS _ (by omega)] at hh
    exact I.other h' hh
  · intro i h hf
    rw [hS _ (hp _).2.1]
    exact I.durable i h hf
  · rw [hW', ← hW]; exact I.loose
  · intro q hq x hx
    rw [hS _ (by omega)] at hx
    exact I.stale q hq x hx
  · rw [hS _ (hp _).2.1]
    exact I.stop
theorem trimM_S {J J' : Jrn} {D D' : Dsk} {k : Int} (hW : D.W = []) (h : trimM J D k = .ok (J', D')) : (∀ p, 2 ≤ p → D'.S.getD p [] = D.S.getD p []) ∧ D'.S.length = D.S.length := by
  unfold trimM at h
  split at h
  · cases h
  split at h
  · cases h; exact ⟨fun _ _ => rfl, rfl⟩
  · cases h
    rw [flush_nil hW]
    refine ⟨fun p hp => ?_, save_len _ _⟩
    rw [(save_S D _).1, flush_nil hW, getD_set_ne]
    dsimp only
    omega
theorem VInv.lay (I : VInv V D f B) (hB : B + 2 ≤ widest) : VInv ⟨V.J, V.blks, V.blks⟩ (layV V D) V.J.held.length B ∧ (layV V D).W = [] := by
  have I1 := I.flush hB
  have hl1 : D.flush.S.length = D.S.length := Dsk.settle_len _ _
  have hlen := I1.len
  have hr := I1.rng hB
  have hb8 := I.b8
  have hwd : widest = 1152921504606846975 := rfl
  have hok := layF_ok V.J.ring V.laid V.blks hb8 hr.s I1.j.dok hlen 8 (Nat.le_refl _)
  have hfl : (layF V.J.ring V.laid V.blks 8 D.flush).S.length = D.flush.S.length := layF_len _ _ _ _ _
  have hlS : (layV V D).S.length = D.flush.S.length := by unfold layV; rw [show ∀ D : Dsk, D.flush.S.length = D.S.length from fun D => Dsk.settle_len _ _, hfl]
  have hcur : ∀ p, p < D.flush.S.length → (layV V D).S.getD p [] = (layF V.J.ring V.laid V.blks 8 D.flush).cur p := fun p hp => by
    have := Dsk.flush_cur (layF V.J.ring V.laid V.blks 8 D.flush) (i := p) (by rw [hfl]; exact hp)
    exact this
  have hcu2 : ∀ p, D.flush.cur p = D.flush.S.getD p [] := fun p => rfl
  have hlow : ∀ p, p < 2 + V.J.ring → (layV V D).S.getD p [] = D.flush.S.getD p [] := fun p hp => by
    rw [hcur p (by omega), layF_lo hp, hcu2]
  have hbn := I.blkN
  refine ⟨⟨I1.j.swap rfl (Dsk.settle_ok hok _) hlS rfl hlow, by rw [hlS]; exact hlen, hb8, ?_, ?_, ?_⟩, rfl⟩
  · intro b hb
    dsimp only at hb ⊢
    have hll : b < V.laid.length := by rw [I.l8]; omega
    rw [hcur _ (by omega), layF_hi, getD_lt hll, getD_lt hb, hcu2]
    have hx := hbn _ (List.getElem_mem hb)
    have hnx : V.J.next ≤ widest := by have := I.j.bound; have := I.j.hdr; unfold Jrn.next; omega
    have h0 := (I.laidN _ (List.getElem_mem hll)).1.1
    by_cases hc : b < 8 ∧ (V.laid[b]).1 < (V.blks[b]).1
    · rw [if_pos hc]
      exact plcOf_plcS ⟨by omega, by omega⟩ ⟨by omega, by omega⟩ hx.2
    · rw [if_neg hc, I1.laidD b hll]
      have hle : ¬ (V.laid[b]).1 < (V.blks[b]).1 := fun h => hc ⟨by omega, h⟩
      have hs := takeAll_same V.J.held V.laid b
      rw [← I.blks, getD_lt hll, getD_lt hb] at hs
      rcases hs with hs | hs
      · rw [hs]
      · exact absurd hs hle
  · intro x hx
    exact hbn x hx
  · dsimp only
    refine (takeAll_id _ _ (fun x hx h1 => ?_)).symm
    have hrb := right_block (I.j.right x hx) h1
    rw [I.blks]
    exact takeAll_ge _ _ x hx h1 (by rw [I.l8]; omega)
/-- a checkpoint -/
theorem VInv.ck (I : VInv V D f B) (hB : B + 2 ≤ widest) {upto : Int} {V' : Vol} {D' : Dsk} (h : ckV V D upto = .ok (V', D')) :
    VInv V' D' V'.J.held.length (B + 2) ∧ V'.blks = V.blks ∧ V'.J.ring = V.J.ring ∧ V'.J.next = V.J.next ∧ ∃ k, V'.J.held = V.J.held.drop k := by
  unfold ckV at h
  split at h
  · cases h
  split at h
  · rename_i J2 D2 htr
    cases h
    obtain ⟨I2, hW⟩ := I.lay hB
    obtain ⟨hS, hl⟩ := trimM_S hW htr
    have hlen := I2.len
    rcases I2.j.trim hB htr with ⟨_, rfl, rfl⟩ | ⟨g1, g2, g3, g4, g5, I3, _⟩
    · exact ⟨I2.mono (by omega), rfl, rfl, rfl, 0, rfl⟩
    · dsimp only at g1 g2 g3 g4 g5 hlen
      have hnx : J2.next = V.J.next := by
        unfold Jrn.next
        rw [g3, g4, List.length_drop]
        omega
      refine ⟨⟨I3, ?_, I2.l8, ?_, ?_, ?_⟩, rfl, g5, hnx, _, g3⟩
      · dsimp only; rw [hl, g5]; exact hlen
      · intro b hb
        dsimp only at hb ⊢
        rw [hS _ (by omega), g5]
        exact I2.laidD b hb
      · intro x hx
        have := I2.laidN x hx
        have e : J2.hd.first + (J2.held.length : Int) = V.J.next := hnx
        dsimp only
        rw [e]
        exact this
      · dsimp only
        have e : V.blks = takeAll V.blks V.J.held := I2.blks
        refine (takeAll_id _ _ (fun x hx h1 => ?_)).symm
        rw [g3] at hx
        have hx := List.mem_of_mem_drop hx
        have hrb := right_block (I.j.right x hx) h1
        have hge := takeAll_ge _ V.blks x hx h1 (by rw [I.b8]; omega)
        rw [← e] at hge
        exact hge
  · cases h
/-- BEHIND A CRASH the volume is what was laid, with the first records taken -/
theorem VInv.crash (I : VInv V D f B) (hB : B + 2 ≤ widest) (kept : Nat → Bool) : ∃ q V' D', f ≤ q ∧ q ≤ V.J.held.length ∧ openV (D.settle kept) V.J.ring = .ok (V', D') ∧ VInv V' D' q (B + 2) ∧ V'.J.ring = V.J.ring ∧ V'.laid = V.laid ∧ V'.J.held = V.J.held.take q := by
  obtain ⟨q, q1, q2, _, ho, I2⟩ := I.j.crash hB kept
  have hlen := I.len
  obtain ⟨r1, r2, r3⟩ := I.j.ring
  have hl1 : (D.settle kept).S.length = D.S.length := Dsk.settle_len _ _
  have hD : ∀ b (h : b < V.laid.length), plcOf ((saveM (D.settle kept) { V.J.hd with gen := V.J.hd.gen + 1, turn := V.J.hd.turn + 1 }).S.getD (2 + V.J.ring + b) []) b = some V.laid[b] := fun b h => by
    rw [(save_S _ _).1, flush_nil rfl, getD_set_ne (by dsimp only; omega), I.keep kept b]
    exact I.laidD b h
  have hpl : plcsM (saveM (D.settle kept) { V.J.hd with gen := V.J.hd.gen + 1, turn := V.J.hd.turn + 1 }) V.J.ring = some V.laid := plcsM_of I.l8 hD
  refine ⟨q, ⟨⟨V.J.ring, { V.J.hd with gen := V.J.hd.gen + 1, turn := V.J.hd.turn + 1 }, V.J.held.take q⟩, V.laid, takeAll V.laid (V.J.held.take q)⟩, _, q1, q2, ?_, ⟨I2, ?_, I.l8, hD, ?_, rfl⟩, rfl, rfl, rfl⟩
  · unfold openV
    rw [if_neg (by omega), ho]
    dsimp only
    rw [Int.toNat_natCast, hpl]
  · rw [save_len, hl1]; exact hlen
  · intro x hx
    have := I.laidN x hx
    dsimp only
    exact ⟨⟨by omega, by omega⟩, by omega⟩
end
/-- a volume on an empty disk -/
theorem VInv.fresh {n ring : Nat} (h1 : 1 ≤ ring) (h2 : ring ≤ 512) (h3 : 10 + ring ≤ n) (h4 : n ≤ 1024) :
    openV (Dsk.new n) ring = .ok (⟨⟨ring, ⟨1, 1, 1, 0⟩, []⟩, List.replicate 8 plc0, List.replicate 8 plc0⟩, saveM (Dsk.new n) ⟨1, 1, 1, 0⟩) ∧ VInv ⟨⟨ring, ⟨1, 1, 1, 0⟩, []⟩, List.replicate 8 plc0, List.replicate 8 plc0⟩ (saveM (Dsk.new n) ⟨1, 1, 1, 0⟩) 0 3 := by
  obtain ⟨ho, I⟩ := JInv.fresh h1 h2 (show 2 + ring ≤ n by omega) h4
  have hS : (Dsk.new n).S = List.replicate n zero64 := by
    unfold Dsk.new
    rw [show (max 0 (min (n : Int) 1024)).toNat = n by omega]
  have hl : (Dsk.new n).S.length = n := by rw [hS]; exact List.length_replicate
  have hD : ∀ b (h : b < (List.replicate 8 plc0).length), plcOf ((saveM (Dsk.new n) ⟨1, 1, 1, 0⟩).S.getD (2 + ring + b) []) b = some (List.replicate 8 plc0)[b] := fun b h => by
    have hb : b < 8 := by simpa using h
    rw [(save_S _ _).1, flush_nil rfl, getD_set_ne (by show (1 : Nat) ≠ _; omega), hS, List.getD_eq_getElem?_getD, List.getElem?_replicate, if_pos (by omega), List.getElem_replicate]
    exact plcOf_zero b
  refine ⟨?_, ⟨I, by rw [save_len, hl]; exact h3, rfl, hD, ?_, rfl⟩⟩
  · unfold openV
    rw [if_neg (by rw [hl]; omega), ho]
    dsimp only
    rw [Int.toNat_natCast, plcsM_of rfl hD]
    rfl
  · intro x hx
    rw [List.eq_of_mem_replicate hx]
    exact ⟨⟨by decide, by show (0 : Int) < 1 + ((0 : Nat) : Int); decide⟩, by decide⟩
end Go.Proofs.YteednjcoapmkaaaGreatDoor
/- Contracts of functions of the given program, and plain laws on what they compute: parts of the proofs of laws. -/

namespace Go.Proofs.YteednjcoapmkaaaGreatDoor
open Go Go.GL

def rvolD (p j ring : Nat) (l1 l2 : List Plc) : List Value := [.pointer (some ⟨p, 0, none⟩), .pointer (some ⟨j, 0, none⟩), .int .i64 ring] ++ l1.map numC ++ l2.map datC
theorem map_set1 (g : Plc → Value) {R : List Plc} {k : Nat} (x : Plc) (h : k < R.length) : setMany (R.map g) (k * 1) [g x] = some ((R.set k x).map g) := by
  rw [Nat.mul_one]
  unfold setMany
  rw [setOne_lt _ (by simpa using h)]
  simp only [setMany]
  rw [List.map_set]
theorem rvolD_setN {p j ring : Nat} {l1 l2 : List Plc} {b : Nat} (x : Plc) (hb : b < l1.length) : setMany (rvolD p j ring l1 l2) (3 + b * 1) [numC x] = some (rvolD p j ring (l1.set b x) l2) :=
  (setMany_app [numC x] [Value.pointer (some ⟨p, 0, none⟩), .pointer (some ⟨j, 0, none⟩), .int .i64 ring] (l1.map numC) (l2.map datC) (b * 1) (map_set1 numC x hb)).1
theorem rvolD_setD {p j ring : Nat} {l1 l2 : List Plc} (h8 : l1.length = 8) {b : Nat} (x : Plc) (hb : b < l2.length) : setMany (rvolD p j ring l1 l2) (11 + b * 1) [datC x] = some (rvolD p j ring l1 (l2.set b x)) := by
  have hl : ([Value.pointer (some ⟨p, 0, none⟩), .pointer (some ⟨j, 0, none⟩), .int .i64 ring] ++ l1.map numC).length = 11 := by
    rw [List.length_append, List.length_map, h8]; rfl
  have h := (setMany_app [datC x] ([Value.pointer (some ⟨p, 0, none⟩), .pointer (some ⟨j, 0, none⟩), .int .i64 ring] ++ l1.map numC) (l2.map datC) [] (b * 1) (map_set1 datC x hb)).1
  rw [hl, List.append_nil, List.append_nil] at h
  exact h
def rvolJ (v p : Nat) (V : Vol) : Assn := exA (fun j : Nat => [blk v (rvolC p j V.J.ring V.laid) 84, rjrn j p V.J])
theorem rvolOut (v p : Nat) (V : Vol) {N : List Assn} : Imp (rvol v p V :: N) (rvolJ v p V :: N) := fun _ s => stars_head_mono (fun _ ⟨y, hk⟩ => ⟨y.1, (Imp.fold (Ls := rjrnL y.1 p V.J) y.2 (M := [])).cons _ (by rw [List.append_nil]; exact hk)⟩) s
def RAppVP (v p : Nat) (V : Vol) (D : Dsk) (R : Except (List (ByteArray × Int) × Int) (Vol × Dsk)) (x : Value) (M : List Assn) : Prop := match R with
  | .ok (V', D') => x = .tuple #[.int .i64 V.J.next, .int .i64 0] ∧ M = [rvol v p V', rdsk p D']
  | .error (_, c) => x = .tuple #[.int .i64 0, .int .i64 c] ∧ M = [rvol v p V, rdsk p D]
theorem appM_ring {J J' : Jrn} {D D' : Dsk} {r : Rec} (h : appendM J D r = .ok (J', D')) : J'.ring = J.ring := by
  unfold appendM at h
  split at h
  · cases h
  · split at h
    · cases h; rfl
    · cases h
set_option maxHeartbeats 4000000 in
set_option maxRecDepth 10000 in
theorem rvwrite_ok (v p : Nat) (V : Vol) (D : Dsk) (block : Int) (data : ByteArray) (hJ : V.J.rng) (hl : 10 + V.J.ring ≤ D.S.length) (hw : D.W.length < 10000) :
    Triple G 45 [.pointer (some ⟨v, 0, none⟩), .int .i64 block, .string data] [rvol v p V, rdsk p D] (RAppVP v p V D (writeV V D block data)) := by
  refine Triple.enter Tryz.func45 rfl (by decide) rfl Tryz.ntmps45 rfl (fun F => ?_)
  unfold RAppVP writeV
  by_cases hb : 0 ≤ block ∧ block < 8
  rotate_left
  · rw [if_pos hb]
    by_cases h0 : block < 0
    · repeat (first | refine GD ?_ | refine NW fun _ => ?_)
      exact ret2 rfl rfl ⟨_, ⟨rfl, rfl⟩, Imp.refl _⟩
    · have h7 : 7 < block := by omega
      repeat (first | refine GD ?_ | refine NW fun _ => ?_)
      exact ret2 rfl rfl ⟨_, ⟨rfl, rfl⟩, Imp.refl _⟩
  rw [if_neg (fun h => h hb)]
  have h0 : ¬ block < 0 := by omega
  have h7 : ¬ 7 < block := by omega
  by_cases h16 : 16 < data.size
  · rw [if_pos h16]
    repeat (first | refine GD ?_ | refine NW fun _ => ?_)
    exact ret2 rfl rfl ⟨_, ⟨rfl, rfl⟩, Imp.refl _⟩
  rw [if_neg h16]
  refine WC.imp (rvolOut v p V) ?_
  refine WC.open P1 (fun j => WC.imp (M := [blk v (rvolC p j V.J.ring V.laid) 84, rjrn j p V.J, rdsk p D, F]) (Imp.refl _) ?_)
  have hap := rappend_ok j p V.J D (0, 1, block, data, 0) hJ (by omega) hw (by dsimp only; omega)
  unfold RAppJ at hap
  rw [show encR (0, 1, block, data, 0) = [.int .i64 0, .int .i64 1, .int .i64 block, .string data, .int .i64 0] from rfl] at hap
  unfold appV
  repeat (first | refine GD ?_ | refine NW fun _ => ?_)
  refine WL.step rfl (OP.call (pre := [rjrn j p V.J, rdsk p D]) rfl rfl hap PS rfl rfl ?_)
  intro x M hM
  cases hq : appendM V.J D (0, 1, block, data, 0) with
  | ok y =>
    obtain ⟨J', D'⟩ := y
    rw [hq] at hM
    obtain ⟨rfl, rfl⟩ := hM
    have hrg := appM_ring hq
    repeat (first | refine GD ?_ | refine NW fun _ => ?_)
    refine ret2 rfl rfl ⟨_, ⟨rfl, rfl⟩, ?_⟩
    refine Imp.trans ?_ (rvolFold v p ⟨J', V.laid, takeV V.blks (setSeq (0, 1, block, data, 0) V.J.next)⟩ j)
    dsimp only
    rw [hrg]
    exact II
  | error c =>
    rw [hq] at hM
    obtain ⟨rfl, rfl⟩ := hM
    repeat (first | refine GD ?_ | refine NW fun _ => ?_)
    refine ret2 rfl rfl ⟨_, ⟨rfl, rfl⟩, Imp.trans II (rvolFold v p V j)⟩
set_option maxHeartbeats 4000000 in
set_option maxRecDepth 10000 in
theorem rvmark_ok (v p : Nat) (V : Vol) (D : Dsk) (number : Int) (hJ : V.J.rng) (hl : 10 + V.J.ring ≤ D.S.length) (hw : D.W.length < 10000) :
    Triple G 47 [.pointer (some ⟨v, 0, none⟩), .int .i64 number] [rvol v p V, rdsk p D] (RAppVP v p V D (markV V D number)) := by
  refine Triple.enter Tryz.func47 rfl (by decide) rfl Tryz.ntmps47 rfl (fun F => ?_)
  unfold RAppVP markV
  refine WC.imp (rvolOut v p V) ?_
  refine WC.open P1 (fun j => WC.imp (M := [blk v (rvolC p j V.J.ring V.laid) 84, rjrn j p V.J, rdsk p D, F]) (Imp.refl _) ?_)
  have hap := rappend_ok j p V.J D (0, 2, 0, ⟨#[]⟩, number) hJ (by omega) hw (by show 0 < 1000000; decide)
  unfold RAppJ at hap
  rw [show encR (0, 2, 0, ⟨#[]⟩, number) = [.int .i64 0, .int .i64 2, .int .i64 0, .string ⟨#[]⟩, .int .i64 number] from rfl] at hap
  unfold appV
  repeat (first | refine GD ?_ | refine NW fun _ => ?_)
  refine WL.step rfl (OP.call (pre := [rjrn j p V.J, rdsk p D]) rfl rfl hap PS rfl rfl ?_)
  intro x M hM
  cases hq : appendM V.J D (0, 2, 0, ⟨#[]⟩, number) with
  | ok y =>
    obtain ⟨J', D'⟩ := y
    rw [hq] at hM
    obtain ⟨rfl, rfl⟩ := hM
    have hrg := appM_ring hq
    repeat (first | refine GD ?_ | refine NW fun _ => ?_)
    refine ret2 rfl rfl ⟨_, ⟨rfl, rfl⟩, ?_⟩
    refine Imp.trans ?_ (rvolFold v p ⟨J', V.laid, takeV V.blks (setSeq (0, 2, 0, ⟨#[]⟩, number) V.J.next)⟩ j)
    dsimp only
    rw [hrg]
    exact II
  | error c =>
    rw [hq] at hM
    obtain ⟨rfl, rfl⟩ := hM
    repeat (first | refine GD ?_ | refine NW fun _ => ?_)
    refine ret2 rfl rfl ⟨_, ⟨rfl, rfl⟩, Imp.trans II (rvolFold v p V j)⟩
def RVReadV (V : Vol) (block : Int) : Value := match readV V block with
  | .ok d => .tuple #[.string d, .int .i64 0]
  | .error (_, c) => .tuple #[.string ⟨#[]⟩, .int .i64 c]
set_option maxRecDepth 10000 in
theorem rvread_ro (v p : Nat) (V : Vol) (block : Int) (h8 : V.laid.length = 8) (hlen : V.J.held.length ≤ 512) (hr : ∀ x ∈ V.J.held, x.2.2.1 = 1 → 0 ≤ x.2.2.2.1 ∧ x.2.2.2.1 < 8) (hb : V.blks = takeAll V.laid V.J.held) :
    RO G 39 [.pointer (some ⟨v, 0, none⟩), .int .i64 block] (rvol v p V) (RVReadV V block) := by
  refine RO.enter Tryz.func39 rfl (by decide) rfl Tryz.ntmps39 rfl (fun A hu hA => ?_) (up_rvol v p V)
  have hE : ∀ {L}, A ∈ L → Ent L (rvol v p V) := fun m => Ent.mem m hu hA
  unfold RVReadV readV
  by_cases h : 0 ≤ block ∧ block < 8
  rotate_left
  · rw [if_pos h]
    by_cases h0 : block < 0
    · repeat (first | refine GD ?_ | refine NW fun _ => ?_)
      exact ret2 rfl rfl ⟨rfl, MM⟩
    · have h7 : 7 < block := by omega
      repeat (first | refine GD ?_ | refine NW fun _ => ?_)
      exact ret2 rfl rfl ⟨rfl, MM⟩
  rw [if_neg (fun x => x h)]
  have h0 : ¬ block < 0 := by omega
  have h7 : ¬ 7 < block := by omega
  obtain ⟨b, rfl⟩ : ∃ b : Nat, block = b := ⟨block.toNat, by omega⟩
  have hla := rlast_ro v p V b (by omega) h8 hlen hr
  rw [← hb] at hla
  rw [Int.toNat_natCast]
  repeat (first | refine GD ?_ | refine NW fun _ => ?_)
  refine WL.step rfl (OP.callRO rfl rfl hla (hE MM) rfl rfl ?_)
  repeat (first | refine GD ?_ | refine NW fun _ => ?_)
  exact ret2 rfl rfl ⟨rfl, MM⟩
end Go.Proofs.YteednjcoapmkaaaGreatDoor
/- A short word: the steps that store nothing. -/
namespace Go.GL
open Go
theorem GS {P Q : Prop} (h : Q) (s : Hd Q → P := by
  intro hh
  (first
    | refine WC.seq ?_ | refine WC.region ?_ | refine WL.nil ?_ | with_reducible refine seqK.go ?_ | refine WC.block ?_ | refine WC.skip ?_ | refine WC.exit ?_ | refine WC.ret ?_
    | with_reducible refine seqK.exit ?_ | with_reducible refine seqK.ret ?_ | (with_reducible refine blockK.hit ?hb ?_; (case hb => rfl)) | (with_reducible refine blockK.miss ?hb ?_; (case hb => rfl)) | with_reducible refine blockK.normal ?_ | with_reducible refine blockK.ret ?_ | with_reducible refine loopK.exit ?_ | with_reducible refine loopK.ret ?_
    | refine WC.condT rfl ?_ | refine WC.condF rfl ?_
    | (refine WL.step rfl ?_; first | refine OP.decT (nw := true) rfl trivial (by first | omega | assumption) rfl rfl ?_ | refine OP.decF (nw := true) rfl trivial (by first | omega | assumption) rfl rfl ?_ | refine OP.decNT (nw := true) rfl trivial (by first | omega | assumption) rfl rfl ?_ | refine OP.decNF (nw := true) rfl trivial (by first | omega | assumption) rfl rfl ?_ | refine OP.pure (nw := true) rfl (by first | exact trivial | (simp only [Holds]; omega) | (simp [Holds]; done) | (simp [Holds]; omega)) rfl rfl ?_ | refine OP.pure (nw := false) rfl (by first | exact trivial | (simp only [Holds]; omega) | (simp [Holds]; done) | (simp [Holds]; omega)) rfl rfl ?_ | refine OP.pickT rfl rfl rfl rfl rfl ?_ | refine OP.pickF rfl rfl rfl rfl rfl ?_ | refine OP.loadN rfl rfl rfl rfl (by repeat (first | exact HasNth.here rfl | apply HasNth.there)) rfl rfl ?_ | refine OP.loadB rfl rfl rfl rfl rfl (by repeat (first | exact HasCut.here rfl | apply HasCut.there)) rfl rfl ?_ | refine OP.buildT rfl rfl rfl rfl ?_ | refine OP.capS rfl rfl rfl rfl rfl rfl ?_)
    | (refine WL.guardT rfl rfl rfl rfl ?_; first | refine OP.decT (nw := true) rfl trivial (by first | omega | assumption) rfl rfl ?_ | refine OP.decF (nw := true) rfl trivial (by first | omega | assumption) rfl rfl ?_ | refine OP.decNT (nw := true) rfl trivial (by first | omega | assumption) rfl rfl ?_ | refine OP.decNF (nw := true) rfl trivial (by first | omega | assumption) rfl rfl ?_ | refine OP.pickT rfl rfl rfl rfl rfl ?_ | refine OP.pickF rfl rfl rfl rfl rfl ?_ | refine OP.pure (nw := true) rfl (by first | exact trivial | (simp only [Holds]; omega) | (simp [Holds]; done) | (simp [Holds]; omega)) rfl rfl ?_ | refine OP.pure (nw := false) rfl trivial rfl rfl ?_ | refine OP.loadN rfl rfl rfl rfl (by repeat (first | exact HasNth.here rfl | apply HasNth.there)) rfl rfl ?_ | refine OP.loadB rfl rfl rfl rfl rfl (by repeat (first | exact HasCut.here rfl | apply HasCut.there)) rfl rfl ?_ | refine OP.buildT rfl rfl rfl rfl ?_)
    | refine WL.guardF rfl rfl rfl rfl rfl rfl ?_ | refine WL.guardU rfl rfl rfl rfl rfl rfl ?_ | refine WL.guarded (nw := true) rfl rfl rfl rfl rfl rfl rfl (by first | exact trivial | (simp only [Holds]; omega) | (simp [Holds]; done) | (simp [Holds]; omega)) ?_)
  repeat (first
    | refine WC.seq ?_ | refine WC.region ?_ | refine WL.nil ?_ | with_reducible refine seqK.go ?_ | refine WC.block ?_ | refine WC.skip ?_ | refine WC.exit ?_ | refine WC.ret ?_
    | with_reducible refine seqK.exit ?_ | with_reducible refine seqK.ret ?_ | (with_reducible refine blockK.hit ?hb ?_; (case hb => rfl)) | (with_reducible refine blockK.miss ?hb ?_; (case hb => rfl)) | with_reducible refine blockK.normal ?_ | with_reducible refine blockK.ret ?_ | with_reducible refine loopK.exit ?_ | with_reducible refine loopK.ret ?_
    | refine WC.condT rfl ?_ | refine WC.condF rfl ?_
    | (refine WL.step rfl ?_; first | refine OP.decT (nw := true) rfl trivial (by first | omega | assumption) rfl rfl ?_ | refine OP.decF (nw := true) rfl trivial (by first | omega | assumption) rfl rfl ?_ | refine OP.decNT (nw := true) rfl trivial (by first | omega | assumption) rfl rfl ?_ | refine OP.decNF (nw := true) rfl trivial (by first | omega | assumption) rfl rfl ?_ | refine OP.pure (nw := true) rfl (by first | exact trivial | (simp only [Holds]; omega) | (simp [Holds]; done) | (simp [Holds]; omega)) rfl rfl ?_ | refine OP.pure (nw := false) rfl (by first | exact trivial | (simp only [Holds]; omega) | (simp [Holds]; done) | (simp [Holds]; omega)) rfl rfl ?_ | refine OP.pickT rfl rfl rfl rfl rfl ?_ | refine OP.pickF rfl rfl rfl rfl rfl ?_ | refine OP.loadN rfl rfl rfl rfl (by repeat (first | exact HasNth.here rfl | apply HasNth.there)) rfl rfl ?_ | refine OP.loadB rfl rfl rfl rfl rfl (by repeat (first | exact HasCut.here rfl | apply HasCut.there)) rfl rfl ?_ | refine OP.buildT rfl rfl rfl rfl ?_ | refine OP.capS rfl rfl rfl rfl rfl rfl ?_)
    | (refine WL.guardT rfl rfl rfl rfl ?_; first | refine OP.decT (nw := true) rfl trivial (by first | omega | assumption) rfl rfl ?_ | refine OP.decF (nw := true) rfl trivial (by first | omega | assumption) rfl rfl ?_ | refine OP.decNT (nw := true) rfl trivial (by first | omega | assumption) rfl rfl ?_ | refine OP.decNF (nw := true) rfl trivial (by first | omega | assumption) rfl rfl ?_ | refine OP.pickT rfl rfl rfl rfl rfl ?_ | refine OP.pickF rfl rfl rfl rfl rfl ?_ | refine OP.pure (nw := true) rfl (by first | exact trivial | (simp only [Holds]; omega) | (simp [Holds]; done) | (simp [Holds]; omega)) rfl rfl ?_ | refine OP.pure (nw := false) rfl trivial rfl rfl ?_ | refine OP.loadN rfl rfl rfl rfl (by repeat (first | exact HasNth.here rfl | apply HasNth.there)) rfl rfl ?_ | refine OP.loadB rfl rfl rfl rfl rfl (by repeat (first | exact HasCut.here rfl | apply HasCut.there)) rfl rfl ?_ | refine OP.buildT rfl rfl rfl rfl ?_)
    | refine WL.guardF rfl rfl rfl rfl rfl rfl ?_ | refine WL.guardU rfl rfl rfl rfl rfl rfl ?_ | refine WL.guarded (nw := true) rfl rfl rfl rfl rfl rfl rfl (by first | exact trivial | (simp only [Holds]; omega) | (simp [Holds]; done) | (simp [Holds]; omega)) ?_)
  exact hh.h) : P := s ⟨h⟩
end Go.GL
