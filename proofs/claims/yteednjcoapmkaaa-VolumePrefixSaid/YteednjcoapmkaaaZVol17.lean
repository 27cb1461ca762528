/- Contracts of functions of the given program, and plain laws: parts of the proofs of laws. -/
import Derived.Test.YteednjcoapmkaaaZVol7
import Derived.Test.YteednjcoapmkaaaZVol15
import Derived.Test.YteednjcoapmkaaaZVol16
import Derived.Test.YteednjcoapmkaaaZVol9
import Derived.Test.YteednjcoapmkaaaZVol5
import Derived.Test.YteednjcoapmkaaaZVol12
/- Contracts of functions of the given program, and plain laws on what they compute: parts of the proofs of laws. -/

namespace Go.Proofs.Yteednjcoapmkaaa
open Go Go.GL

def strC (s : ByteArray) : List Value := [.string s]
theorem strC_len (s : ByteArray) : (strC s).length = 1 := rfl
/-- the blocks' contents -/
def Vol.texts (V : Vol) : List ByteArray := V.blks.map Prod.snd
def StrsPost (l : List ByteArray) (v : Value) (E : List Assn) : Prop := ∃ a cap, v = .slice a l.length cap ∧ E = [ownS a l.length cap 9 1 (l.flatMap strC)]
set_option maxHeartbeats 1000000 in
set_option maxRecDepth 10000 in
theorem vblocks_rt (v p : Nat) (V : Vol) (hV : V.rng) : RT G 26 [.pointer (some ⟨v, 0, none⟩)] (vol v p V) (fun x E => StrsPost V.texts x E) := by
  refine RT.enter Try.func26 rfl (by decide) rfl Try.ntmps26 rfl (fun A hu hA => ?_)
  have hE : ∀ {L}, A ∈ L → Ent L (vol v p V) := fun m => Ent.mem m hu hA
  have ht8 : V.texts.length = 8 := by unfold Vol.texts; rw [List.length_map]; exact hV.b8
  repeat (first | refine GD ?_ | refine NW fun _ => ?_)
  refine WC.imp (Imp.nilS 9 1) ?_
  refine WC.loop (σ := Nat × Option Addr × Nat) (fun s => s.1 ≤ 8)
    (fun s => [(0, .val (.pointer (some ⟨v, 0, none⟩))), (3, .val (.slice s.2.1 s.1 s.2.2)), (7, .val (.int .i64 s.1))])
    (fun s => [ownS s.2.1 s.1 s.2.2 9 1 ((V.texts.take s.1).flatMap strC), A]) (fun s => 8 - s.1) (0, none, 0) (Nat.zero_le _) ⟨rfl, rfl, rfl, trivial⟩ (Imp.refl _) ?_
  rintro ⟨k, a, cap⟩ hk
  dsimp only at hk ⊢
  by_cases hlt : k < 8
  rotate_left
  · have he : k = 8 := by omega
    subst he
    rw [List.take_of_length_le (by omega)]
    repeat (first | refine GD ?_ | refine NW fun _ => ?_)
    exact ret1 rfl ⟨[ownS a 8 cap 9 1 (V.texts.flatMap strC)], ⟨a, cap, by rw [ht8], by rw [ht8]⟩, II⟩
  have hlk : k < V.texts.length := by omega
  have hlb : k < V.blks.length := by rw [hV.b8]; exact hlt
  have hsn : (V.texts.take (k + 1)).flatMap strC = (V.texts.take k).flatMap strC ++ strC V.texts[k] := by
    rw [← List.take_append_getElem hlk, List.flatMap_append, List.flatMap_cons, List.flatMap_nil, List.append_nil]
  have hrv : readV V k = .ok V.texts[k] := by
    unfold readV
    rw [if_neg (by omega), Int.toNat_natCast, getD_lt hlb]
    exact congrArg _ (List.getElem_map Prod.snd (l := V.blks) (h := by rw [List.length_map]; exact hlb)).symm
  have hrd := vread_rt v p V k hV
  unfold VReadPost at hrd
  rw [hrv] at hrd
  generalize V.texts[k] = t at *
  repeat (first | refine GD ?_ | refine NW fun _ => ?_)
  refine WL.step rfl (OP.callRT rfl rfl hrd (hE MM) rfl rfl ?_)
  rintro _ _ ⟨rfl, rfl⟩
  repeat (first | refine GD ?_ | refine NW fun _ => ?_)
  refine WL.step rfl (OP.append (ds := strC t) rfl rfl rfl rfl rfl rfl rfl rfl rfl P1 (Ent.own MM) rfl (by omega) (by omega) rfl rfl (fun a' cap' => ?_))
  repeat (first | refine GD ?_ | refine NW fun _ => ?_)
  exact ⟨(k + 1, a', cap'), by dsimp only; omega, by dsimp only; omega, ⟨rfl, rfl, rfl, trivial⟩, by dsimp only; rw [hsn]; exact II⟩
set_option maxHeartbeats 2000000 in
set_option maxRecDepth 10000 in
theorem valike_ro (a1 a2 : Option Addr) (n c1 c2 : Nat) (l1 l2 : List ByteArray) (h1 : n = l1.length) (h2 : n = l2.length) (hs : n < 1000000) : RO G 32 [.slice a1 n c1, .slice a2 n c2] (fun h => readS a1 n 1 (l1.flatMap strC) h ∧ readS a2 n 1 (l2.flatMap strC) h) (.bool (decide (l1 = l2))) := by
  refine RO.enter Try.func32 rfl (by decide) rfl Try.ntmps32 rfl (fun A hu hA => ?_) (up_and (up_readS _ _ _ _) (up_readS _ _ _ _))
  have hE1 : ∀ {L}, A ∈ L → Ent L (readS a1 n 1 (l1.flatMap strC)) := fun m => Ent.mem m hu fun k x => (hA k x).1
  have hE2 : ∀ {L}, A ∈ L → Ent L (readS a2 n 1 (l2.flatMap strC)) := fun m => Ent.mem m hu fun k x => (hA k x).2
  repeat (first | refine GD ?_ | refine NW fun _ => ?_)
  refine WC.loop (σ := Nat) (fun k => k ≤ n ∧ ∀ j, j < k → l1[j]? = l2[j]?)
    (fun k => [(0, .val (.slice a1 n c1)), (1, .val (.slice a2 n c2)), (7, .val (.int .i64 n)), (8, .val (.int .i64 k))])
    (fun k => [A]) (fun k => n - k) 0 ⟨Nat.zero_le _, fun j hj => by omega⟩ ⟨rfl, rfl, rfl, rfl, trivial⟩ (Imp.refl _) ?_
  rintro k ⟨hk, hall⟩
  by_cases hlt : k < n
  rotate_left
  · repeat (first | refine GD ?_ | refine NW fun _ => ?_)
    refine ret1 rfl ⟨?_, MM⟩
    have : l1 = l2 := List.ext_getElem? fun i => by
      by_cases hi : i < k
      · exact hall i hi
      · rw [List.getElem?_eq_none (by omega), List.getElem?_eq_none (by omega)]
    simp [this]
  have hl1 : k < l1.length := by omega
  have hl2 : k < l2.length := by omega
  repeat (first | refine GD ?_ | refine NW fun _ => ?_)
  refine WC.fact (Ent.some (hE1 MM) (by omega)) ?_
  rintro ⟨b, off, rfl⟩
  refine WC.fact (Ent.some (hE2 MM) (by omega)) ?_
  rintro ⟨b', off', rfl⟩
  refine RD 9 9 (_) ?_
  refine WP 0 ?_
  refine WP 1 ?_
  refine WP 2 ?_
  refine VL 3 (.string l1[k]) rfl rfl rfl rfl (.inl ⟨rfl, Ent.elF strC_len (j := 0) (hE1 MM) hl1 rfl rfl⟩) ?_
  refine WP 4 ?_
  refine WP 5 ?_
  refine WP 6 ?_
  refine VL 7 (.string l2[k]) rfl rfl rfl rfl (.inl ⟨rfl, Ent.elF strC_len (j := 0) (hE2 MM) hl2 rfl rfl⟩) ?_
  refine WP 8 ?_
  refine DN ?_
  by_cases he : l1[k] = l2[k]
  · rw [decide_eq_true he]
    repeat (first | refine GD ?_ | refine NW fun _ => ?_)
    exact ⟨k + 1, ⟨by omega, fun j hj => by
      by_cases e : j = k
      · subst e; rw [List.getElem?_eq_getElem hl1, List.getElem?_eq_getElem hl2, he]
      · exact hall j (by omega)⟩, by omega, ⟨rfl, rfl, rfl, rfl, trivial⟩, Imp.refl _⟩
  · rw [decide_eq_false he]
    repeat (first | refine GD ?_ | refine NW fun _ => ?_)
    refine ret1 rfl ⟨?_, MM⟩
    have : l1 ≠ l2 := fun e => he (by subst e; rfl)
    simp [this]
end Go.Proofs.Yteednjcoapmkaaa
/- Contracts of functions of the given program, and plain laws on what they compute: parts of the proofs of laws. -/
namespace Go.Proofs.Yteednjcoapmkaaa
open Go Go.GL
theorem rec_of {x : List Value} (h : LfsOk [.int .i64, .int .i64, .int .i64, .str, .int .i64] x) : ∃ r : Rec, x = encR r ∧ (r.2.2.2.1.size ≤ maxLen ∧ (Lit.int .i64 r.1).wf = true ∧ (Lit.int .i64 r.2.1).wf = true ∧ (Lit.int .i64 r.2.2.1).wf = true ∧ (Lit.int .i64 r.2.2.2.2).wf = true) := by
  obtain ⟨n0, s, rfl, w0, h⟩ := h.int
  obtain ⟨n1, s, rfl, w1, h⟩ := h.int
  obtain ⟨n2, s, rfl, w2, h⟩ := h.int
  obtain ⟨n3, s, rfl, w3, h⟩ := h.str
  obtain ⟨n4, s, rfl, w4, h⟩ := h.int
  rw [h.nil]
  exact ⟨(n0, n1, n2, n3, n4), rfl, w3, w0, w1, w2, w4⟩
end Go.Proofs.Yteednjcoapmkaaa
/- Contracts of functions of the given program, and plain laws on what they compute: parts of the proofs of laws. -/

namespace Go.Proofs.Yteednjcoapmkaaa
open Go Go.GL

/-- a call: its kind, its number, its text, what is kept -/
abbrev VOp := Int × Int × ByteArray × Int
def encO (o : VOp) : List Value := [.int .i64 o.1, .int .i64 o.2.1, .string o.2.2.1, .int .u64 o.2.2.2]
theorem encO_len (o : VOp) : (encO o).length = 4 := rfl
theorem vop_of {x : List Value} (h : LfsOk [.int .i64, .int .i64, .str, .int .u64] x) : ∃ o : VOp, x = encO o ∧ (Lit.int .i64 o.1).wf = true ∧ (Lit.int .i64 o.2.1).wf = true ∧ (Lit.int .u64 o.2.2.2).wf = true := by
  obtain ⟨k, s, rfl, w0, h⟩ := h.int
  obtain ⟨n, s, rfl, w1, h⟩ := h.int
  obtain ⟨n3, s, rfl, _, h⟩ := h.str
  obtain ⟨n5, s, rfl, w5, h⟩ := h.int
  rw [h.nil]
  exact ⟨(k, n, n3, n5), rfl, w0, w1, w5⟩
def fewV (l : List VOp) : Bool := decide (l.length ≤ 80) && l.all (fun o => decide (o.2.2.1.size ≤ 100))
set_option maxHeartbeats 1000000 in
set_option maxRecDepth 10000 in
theorem vfew_ro (a : Option Addr) (n c : Nat) (l : List VOp) (hn : n = l.length) : RO G 23 [.slice a n c] (readS a n 4 (l.flatMap encO)) (.bool (fewV l)) := by
  refine RO.enter Try.func23 rfl (by decide) rfl Try.ntmps23 rfl (fun A hu hA => ?_) (up_readS _ _ _ _)
  have hE : ∀ {L}, A ∈ L → Ent L (readS a n 4 (l.flatMap encO)) := fun m => Ent.mem m hu hA
  by_cases h80 : 80 < n
  · have hf : fewV l = false := by unfold fewV; rw [decide_eq_false (by omega)]; rfl
    rw [hf]
    repeat (first | refine GD ?_ | refine NW fun _ => ?_)
    exact ret1 rfl ⟨rfl, MM⟩
  have hfd : fewV l = l.all (fun o => decide (o.2.2.1.size ≤ 100)) := by unfold fewV; rw [decide_eq_true (by omega)]; rfl
  rw [hfd]
  repeat (first | refine GD ?_ | refine NW fun _ => ?_)
  refine WC.loop (σ := Nat) (fun k => k ≤ n ∧ ∀ o ∈ l.take k, o.2.2.1.size ≤ 100)
    (fun k => [(0, .val (.slice a n c)), (8, .val (.int .i64 n)), (9, .val (.int .i64 k))])
    (fun k => [A]) (fun k => n - k) 0 ⟨Nat.zero_le _, by simp⟩ ⟨rfl, rfl, rfl, trivial⟩ (Imp.refl _) ?_
  rintro k ⟨hk, hall⟩
  by_cases hlt : k < n
  rotate_left
  · have hk2 : k = l.length := by omega
    rw [hk2, List.take_length] at hall
    have ht : l.all (fun o => decide (o.2.2.1.size ≤ 100)) = true := List.all_eq_true.2 (fun o ho => decide_eq_true (hall o ho))
    rw [ht]
    repeat (first | refine GD ?_ | refine NW fun _ => ?_)
    exact ret1 rfl ⟨rfl, MM⟩
  have hlk : k < l.length := by omega
  have hmem : l[k] ∈ l := List.getElem_mem hlk
  have hsnoc : l.take (k + 1) = l.take k ++ [l[k]] := (List.take_append_getElem hlk).symm
  refine WC.fact (Ent.some (hE MM) (by omega)) ?_
  rintro ⟨b, off, rfl⟩
  repeat (first | refine GD ?_ | refine NW fun _ => ?_)
  refine WL.step rfl (OP.load1 (v := .string l[k].2.2.1) rfl rfl rfl rfl (Ent.elF encO_len (j := 2) (hE MM) hlk rfl rfl) rfl rfl ?_)
  generalize l[k] = o at *
  by_cases h300 : 100 < (o.2.2.1.size : Int)
  · have ht : l.all (fun o => decide (o.2.2.1.size ≤ 100)) = false := by
      cases hq : l.all (fun o => decide (o.2.2.1.size ≤ 100))
      · rfl
      · have := of_decide_eq_true (List.all_eq_true.1 hq o hmem)
        omega
    rw [ht]
    repeat (first | refine GD ?_ | refine NW fun _ => ?_)
    exact ret1 rfl ⟨rfl, MM⟩
  · repeat (first | refine GD ?_ | refine NW fun _ => ?_)
    refine ⟨k + 1, ⟨by omega, ?_⟩, by omega, ⟨rfl, rfl, rfl, trivial⟩, Imp.refl _⟩
    intro o' ho'
    rw [hsnoc] at ho'
    rcases List.mem_append.1 ho' with h | h
    · exact hall o' h
    · rw [List.mem_singleton.1 h]; omega
end Go.Proofs.Yteednjcoapmkaaa
/- an element of several cells of an array that is a value. -/
namespace Go.GL
open Go
section
variable {G : Ctx} {N : Nat} {env : Env} {L : List Assn} {o : Oper} {post : Env → List Assn → Prop} {d : Nat}
theorem OP.indexA {t e : TypeId} {x ix : Operand} {ti te : TI} {k : IntKind} {i len : Nat} {cs vs : List Value} (ho : o.op = .index t x ix) (hx : rd none env x = some (none, .agg cs.toArray)) (hi : rd none env ix = some (none, .int k i))
    (ht : G.T.find t = some ti) (hd1 : ti.desc = .array len e) (hte : G.T.find e = some te) (hag : te.agg = true) (hlt : i < len) (hv : (cs.drop (i * te.size)).take te.size = vs) (hd : o.dst = some d) (hN : Nat.blt d N = true) (h : post ((d, .val (.agg vs.toArray)) :: env) L) : OP G N o env L post :=
  .run (fun a w ha _ => by
    have u : G.P.underlying t = some (.array len e) := hd1 ▸ (Tab.find_ok G.ok ht).desc
    rw [execOp, ho]
    simp [Instr.index, rd_plain hx ha, rd_plain hi ha, asIntOf, run_underlying u, run_size (Tab.find_ok G.ok hte), part, run_isAgg (Tab.find_ok G.ok hte), hag, hlt, hv]) hd hN h
end
end Go.GL
/- Contracts of functions of the given program, and plain laws on what they compute: parts of the proofs of laws. -/

namespace Go.Proofs.Yteednjcoapmkaaa
open Go Go.GL

theorem uptoV_snoc (h : List Held) (x : Held) (n : Int) : uptoV (h ++ [x]) n = if x.2.1 ≤ n then uptoV h n + 1 else uptoV h n := by
  unfold uptoV
  rw [List.filter_append]
  by_cases hx : x.2.1 ≤ n
  · rw [if_pos hx, List.filter_cons_of_pos (by simpa using hx)]
    simp
  · rw [if_neg hx, List.filter_cons_of_neg (by simpa using hx)]
    simp
set_option maxHeartbeats 2000000 in
set_option maxRecDepth 10000 in
theorem vupto_ro (v p : Nat) (V : Vol) (number : Int) (hV : V.rng) : RO G 54 [.pointer (some ⟨v, 0, none⟩), .int .i64 number] (vol v p V) (.int .i64 (uptoV V.J.held number : Nat)) := by
  refine RO.enterEx Try.func54 rfl (by decide) rfl Try.ntmps54 rfl (fun j A hu hA => ?_)
  have hC : ∀ {L} {i : Nat} {x : Value}, (volC p j V.J.ring V.laid V.blks)[i]? = some x → A ∈ L → Ent L (cellAt v i x) := fun h m => Ent.of hu hA m (Ent.volAt (List.Mem.head _) h)
  have hE : ∀ {L}, A ∈ L → Ent L (jrn j p V.J) := fun m => Ent.of hu hA m (Ent.at (up_jrn j p V.J) (List.Mem.tail _ (List.Mem.head _)))
  have hlR : ∀ x : Held, (encR x.2).length = 5 := fun _ => rfl
  have hfew : V.J.held.length ≤ 512 := by have h1 := hV.J.2; have h2 := hV.J.1; omega
  repeat (first | refine GD ?_ | refine NW fun _ => ?_)
  refine WL.step rfl (OP.load1 (v := .pointer (some ⟨j, 0, none⟩)) rfl rfl rfl rfl (hC (i := 2) rfl MM) rfl rfl ?_)
  repeat (first | refine GD ?_ | refine NW fun _ => ?_)
  refine WL.step rfl (OP.callRT rfl rfl (jrecords_rt j p V.J hV.J) (hE MM) rfl rfl ?_)
  rintro _ _ ⟨ar, capr, rfl, rfl⟩
  repeat (first | refine GD ?_ | refine NW fun _ => ?_)
  refine WC.loop (σ := Nat) (fun i => i ≤ V.J.held.length)
    (fun i => [(1, .val (.int .i64 number)), (5, .val (.int .i64 (uptoV (V.J.held.take i) number : Nat))), (12, .val (.slice ar V.J.held.length capr)), (13, .val (.int .i64 V.J.held.length)), (14, .val (.int .i64 i))])
    (fun _ => [ownS ar V.J.held.length capr 34 5 (V.J.held.flatMap (fun x => encR x.2)), A]) (fun i => V.J.held.length - i) 0 (Nat.zero_le _) ⟨rfl, rfl, rfl, rfl, rfl, trivial⟩ (Imp.refl _) ?_
  rintro i hi
  by_cases hlt : i < V.J.held.length
  rotate_left
  · have he : i = V.J.held.length := by omega
    subst he
    rw [List.take_length]
    repeat (first | refine GD ?_ | refine NW fun _ => ?_)
    exact ret1 rfl ⟨rfl, MM⟩
  have hsn : uptoV (V.J.held.take (i + 1)) number = if V.J.held[i].2.1 ≤ number then uptoV (V.J.held.take i) number + 1 else uptoV (V.J.held.take i) number := by
    rw [← List.take_append_getElem hlt, uptoV_snoc]
  have hle := uptoV_le (V.J.held.take i) number
  rw [List.length_take] at hle
  generalize uptoV (V.J.held.take i) number = m at *
  refine WC.fact (Ent.some (Ent.own (a := ar) (n := V.J.held.length) (cap := capr) (T := 34) (size := 5) (cs := V.J.held.flatMap (fun x => encR x.2)) MM) (by omega)) ?_
  rintro ⟨b, off, hx⟩
  rw [hx]
  repeat (first | refine GD ?_ | refine NW fun _ => ?_)
  refine WL.step rfl (OP.loadA (l := encR V.J.held[i].2) rfl rfl rfl rfl (Ent.elA hlR (Ent.own (T := 34) MM) hlt) rfl rfl rfl ?_)
  generalize V.J.held[i] = e at *
  obtain ⟨g, seq, kind, block, data, num⟩ := e
  dsimp only at hsn
  by_cases hc : seq ≤ number
  · rw [if_pos hc] at hsn
    repeat (first | refine GD ?_ | refine NW fun _ => ?_)
    exact ⟨i + 1, by omega, by omega, ⟨rfl, by rw [hsn]; rfl, rfl, rfl, rfl, trivial⟩, II⟩
  · rw [if_neg hc] at hsn
    repeat (first | refine GD ?_ | refine NW fun _ => ?_)
    exact ⟨i + 1, by omega, by omega, ⟨rfl, by rw [hsn]; rfl, rfl, rfl, rfl, trivial⟩, II⟩
end Go.Proofs.Yteednjcoapmkaaa
/- Contracts of functions of the given program, and plain laws on what they compute: parts of the proofs of laws. -/

namespace Go.Proofs.Yteednjcoapmkaaa
open Go Go.GL

theorem volC_setB {p j ring : Nat} {laid blks : List Plc} (h1 : laid.length = 8) (h2 : blks.length = 8) : setMany (volC p j ring laid blks) 3 (blks.flatMap plcC) = some (volC p j ring blks blks) := by
  exact setMany_mid (blks.flatMap plcC) [Value.pointer (some ⟨p, 0, none⟩), .int .i64 ring, .pointer (some ⟨j, 0, none⟩)] (laid.flatMap plcC) (blks.flatMap plcC) (by rw [flat_len plcC_len, flat_len plcC_len, h1, h2])
theorem volC_lay {p j ring : Nat} {laid blks : List Plc} {b i : Nat} (hb : b < laid.length) (hi : i < 2) : (volC p j ring laid blks)[3 + b * 2 + i]? = (plcC laid[b])[i]? := by
  have hl : (laid.flatMap plcC).length = laid.length * 2 := flat_len plcC_len laid
  unfold volC
  rw [List.append_assoc, List.getElem?_append_right (by show 3 ≤ _; omega), List.getElem?_append_left (by rw [hl]; show 3 + b * 2 + i - 3 < _; omega)]
  simp only [List.length_cons, List.length_nil]
  rw [show 3 + b * 2 + i - (0 + 1 + 1 + 1) = b * 2 + i by omega]
  exact flat_get plcC_len laid b i hb hi
theorem Ent.volBlks {L : List Assn} {v p j ring : Nat} {laid blks : List Plc} (h1 : laid.length = 8) (m : volB v p j ring laid blks ∈ L) : Ent L (cellsAt v 19 (blks.flatMap plcC)) :=
  Ent.mem m (up_blk _ _ _) fun h ⟨fr, hb, _⟩ => ⟨_, _, fr, hb, fun i x hi => by
    have hl : ([Value.pointer (some ⟨p, 0, none⟩), .int .i64 ring, .pointer (some ⟨j, 0, none⟩)] ++ laid.flatMap plcC).length = 19 := by
      rw [List.length_append, flat_len plcC_len, h1]; rfl
    unfold volC
    rw [List.getElem?_toArray, List.getElem?_append_right (by rw [hl]; omega), hl, Nat.add_sub_cancel_left]
    exact hi⟩
theorem trimM_ok {J : Jrn} {D : Dsk} {k : Nat} (h : k ≤ J.held.length) : ∃ J' D', trimM J D k = .ok (J', D') ∧ J'.ring = J.ring := by
  unfold trimM
  rw [if_neg (by omega)]
  split
  · exact ⟨_, _, rfl, rfl⟩
  · exact ⟨_, _, rfl, rfl⟩
def CkVP (v p : Nat) (V : Vol) (D : Dsk) (upto : Int) (x : Value) (M : List Assn) : Prop := match ckV V D upto with
  | .ok (V', D') => x = .nilIface ∧ M = [vol v p V', dsk p D']
  | .error (l, c) => ∃ E, IsEr (some (l, c)) x E ∧ M = E ++ [vol v p V, dsk p D]
set_option maxHeartbeats 4000000 in
set_option maxRecDepth 10000 in
theorem vcheck_ok (v p : Nat) (V : Vol) (D : Dsk) (upto : Int) (hV : V.rng) (hD : D.ok) (hl : 10 + V.J.ring ≤ D.S.length) (hw : D.W.length < 9000) :
    Triple G 31 [.pointer (some ⟨v, 0, none⟩), .int .i64 upto] [vol v p V, dsk p D] (CkVP v p V D upto) := by
  refine Triple.enter Try.func31 rfl (by decide) rfl Try.ntmps31 rfl (fun F => ?_)
  have hdef : ckV V D upto = if upto < 0 ∨ V.J.next ≤ upto then .error ([(volTx, upto)], 5)
    else match trimM V.J (layV V D) (uptoV V.J.held upto) with
      | .ok (J', D') => .ok (⟨J', V.blks, V.blks⟩, D')
      | .error c => .error ([(jrnTx, (uptoV V.J.held upto : Nat))], c) := rfl
  unfold CkVP
  rw [hdef]
  by_cases h1 : upto < 0
  · rw [if_pos (.inl h1)]
    repeat (first | refine GD ?_ | refine NW fun _ => ?_)
    refine WL.step rfl (OP.call (pre := []) rfl rfl (vwrong0_ok upto 5 (by decide)) PS rfl rfl ?_)
    intro x M hF
    repeat (first | refine GD ?_ | refine NW fun _ => ?_)
    exact ret1 rfl ⟨M ++ [vol v p V, dsk p D], ⟨M, hF, rfl⟩, by rw [List.append_assoc]; exact Imp.appL II M⟩
  repeat (first | refine GD ?_ | refine NW fun _ => ?_)
  refine WL.guardT rfl rfl rfl rfl (OP.callRO rfl rfl (vnext_ro v p V hV) (Ent.at (up_vol v p V) MM) rfl rfl ?_)
  by_cases h2 : V.J.next ≤ upto
  · rw [if_pos (.inr h2)]
    repeat (first | refine GD ?_ | refine NW fun _ => ?_)
    refine WL.step rfl (OP.call (pre := []) rfl rfl (vwrong0_ok upto 5 (by decide)) PS rfl rfl ?_)
    intro x M hF
    repeat (first | refine GD ?_ | refine NW fun _ => ?_)
    exact ret1 rfl ⟨M ++ [vol v p V, dsk p D], ⟨M, hF, rfl⟩, by rw [List.append_assoc]; exact Imp.appL II M⟩
  rw [if_neg (fun h => h.elim h1 h2)]
  obtain ⟨J', D', htr, hrg⟩ := trimM_ok (D := layV V D) (uptoV_le V.J.held upto)
  rw [htr]
  refine WL.open P1 (fun j => WL.imp (M := [volB v p j V.J.ring V.laid V.blks, jrn j p V.J, dsk p D, F]) (Imp.refl _) ?_)
  have hJ := hV.J
  have hfl : D.flush.ok := Dsk.settle_ok hD _
  have hfs : D.flush.S.length = D.S.length := Dsk.settle_len D _
  have hfw : D.flush.W.length = 0 := rfl
  repeat (first | refine GD ?_ | refine NW fun _ => ?_)
  refine WL.step rfl (OP.call (pre := [jrn j p V.J, dsk p D]) rfl rfl (jflush_ok j p V.J D hD (by omega)) PS rfl rfl ?_)
  rintro _ _ ⟨rfl, rfl⟩
  have hlc : (V.blks.flatMap plcC).length = 16 := by rw [flat_len plcC_len, hV.b8]
  have h1l : ∀ l : List Plc, allOne (l.flatMap plcC) = true := fun l => by
    induction l with
    | nil => rfl
    | cons x r ih => rw [List.flatMap_cons]; simpa [plcC, allOne, one] using ih
  repeat (first | refine GD ?_ | refine NW fun _ => ?_)
  refine WL.step rfl (OP.loadA (l := V.blks.flatMap plcC) rfl rfl rfl rfl (Ent.volBlks hV.l8 MM) hlc rfl rfl ?_)
  repeat (first | refine GD ?_ | refine NW fun _ => ?_)
  refine WC.loop (σ := Nat) (fun k => k ≤ 8)
    (fun k => [(0, .val (.pointer (some ⟨v, 0, none⟩))), (1, .val (.int .i64 upto)), (30, .val (.agg (V.blks.flatMap plcC).toArray)), (31, .val (.int .i64 k))])
    (fun k => [volB v p j V.J.ring V.laid V.blks, jrn j p V.J, dsk p (layF V.J.ring V.laid V.blks k D.flush), F]) (fun k => 8 - k) 0 (Nat.zero_le _) ⟨rfl, rfl, rfl, rfl, trivial⟩ II ?_
  rintro k hk
  have hko := layF_ok V.J.ring V.laid V.blks hV.b8 hV.s hfl (by omega) k hk
  have hkl := layF_len V.J.ring V.laid V.blks k D.flush
  have hkw := layF_w V.J.ring V.laid V.blks k D.flush
  by_cases hlt : k < 8
  rotate_left
  · have he : k = 8 := by omega
    subst he
    have hlay8 : layV V D = (layF V.J.ring V.laid V.blks 8 D.flush).flush := rfl
    rw [hlay8] at htr
    generalize layF V.J.ring V.laid V.blks 8 D.flush = D8 at *
    have hV8 : (⟨V.J, V.blks, V.blks⟩ : Vol).rng := ⟨hV.J, hV.b8, hV.b8, hV.s⟩
    have hf8 : D8.flush.ok := Dsk.settle_ok hko _
    have hs8 : D8.flush.S.length = D8.S.length := Dsk.settle_len D8 _
    have hw8 : D8.flush.W.length = 0 := rfl
    have htj := jtrim_ok j p V.J D8.flush (uptoV V.J.held upto : Nat) hV.J hf8 (by omega) (by omega)
    unfold TrimJ at htj
    rw [htr] at htj
    have hup := vupto_ro v p ⟨V.J, V.blks, V.blks⟩ upto hV8
    repeat (first | refine GD ?_ | refine NW fun _ => ?_)
    refine WL.step rfl (OP.loadA (l := V.blks.flatMap plcC) rfl rfl rfl rfl (Ent.volBlks hV.l8 MM) hlc rfl rfl ?_)
    repeat (first | refine GD ?_ | refine NW fun _ => ?_)
    refine WL.step rfl (OP.store (vs := V.blks.flatMap plcC) (M := [volB v p j V.J.ring V.blks V.blks, jrn j p V.J, dsk p D8, F]) rfl rfl rfl rfl rfl (h1l _) hlc (UpdM.here (by rw [Nat.zero_add]; exact volC_setB hV.l8 hV.b8)) rfl ?_)
    repeat (first | refine GD ?_ | refine NW fun _ => ?_)
    refine WL.step rfl (OP.call (pre := [dsk p D8]) rfl rfl (dflush_ok p D8 hko (by omega)) PS rfl rfl ?_)
    rintro _ _ ⟨rfl, rfl⟩
    repeat (first | refine GD ?_ | refine NW fun _ => ?_)
    refine RD 7 9 (_) ?_
    refine WP 0 ?_
    refine WP 1 ?_
    refine WP 2 ?_
    refine VV 3 ?_
    refine WP 4 ?_
    refine WP 5 ?_
    refine WH.only 6 rfl rfl (by kernel_rfl) rfl (OP.callRO rfl rfl (hup) (Ent.exI (Ls := fun j : Nat => [volB v p j V.J.ring V.blks V.blks, jrn j p V.J]) j II) rfl rfl ⟨fun _ => II, ?_⟩)
    refine WH.only 7 rfl rfl (by kernel_rfl) rfl (OP.call (pre := [jrn j p V.J, dsk p D8.flush]) rfl rfl htj PS rfl rfl (fun x M hM => ?_))
    obtain ⟨rfl, rfl⟩ := hM
    refine ⟨(fun h => nomatch h), ?_⟩
    refine WP 8 ?_
    refine DN ?_
    repeat (first | refine GD ?_ | refine NW fun _ => ?_)
    refine ret1 rfl ⟨[vol v p ⟨J', V.blks, V.blks⟩, dsk p D'], ⟨rfl, rfl⟩, ?_⟩
    refine Imp.trans ?_ (volFold v p ⟨J', V.blks, V.blks⟩ j)
    dsimp only
    rw [hrg]
    exact II
  have hlb : k < V.blks.length := by rw [hV.b8]; exact hlt
  have hll : k < V.laid.length := by rw [hV.l8]; exact hlt
  have hst : layF V.J.ring V.laid V.blks (k + 1) D.flush = if (V.laid[k]).1 < (V.blks[k]).1 then (layF V.J.ring V.laid V.blks k D.flush).put (2 + V.J.ring + k) (plcS V.blks[k] k) else layF V.J.ring V.laid V.blks k D.flush := by
    rw [layF, List.getD_eq_getElem?_getD, List.getD_eq_getElem?_getD, List.getElem?_eq_getElem hlb, List.getElem?_eq_getElem hll, Option.getD_some, Option.getD_some]
  have hlay := volC_lay (p := p) (j := j) (ring := V.J.ring) (blks := V.blks) (i := 0) hll (by decide)
  have hsz := hV.s _ (List.getElem_mem hlb)
  repeat (first | refine GD ?_ | refine NW fun _ => ?_)
  refine WL.step rfl (OP.indexA (vs := plcC V.blks[k]) rfl rfl rfl rfl rfl rfl rfl hlt (flat_cut plcC_len V.blks k hlb).symm rfl rfl ?_)
  repeat (first | refine GD ?_ | refine NW fun _ => ?_)
  refine RD 10 10 (_) ?_
  refine WP 0 ?_
  refine VV 1 ?_
  refine WP 2 ?_
  refine WP 3 ?_
  refine WP 4 ?_
  refine WP 5 ?_
  refine WP 6 ?_
  refine WP 7 ?_
  refine VL 8 (.int .i64 (V.laid[k]).1) rfl rfl rfl rfl (.inl ⟨rfl, Ent.volAt MM hlay⟩) ?_
  refine WP 9 ?_
  refine DN ?_
  by_cases hc : (V.laid[k]).1 < (V.blks[k]).1
  rotate_left
  · rw [if_neg hc] at hst
    rw [decide_eq_false hc]
    repeat (first | refine GD ?_ | refine NW fun _ => ?_)
    exact ⟨k + 1, by omega, by omega, ⟨rfl, rfl, rfl, rfl, trivial⟩, by rw [hst]; exact II⟩
  rw [if_pos hc] at hst
  rw [decide_eq_true hc]
  generalize layF V.J.ring V.laid V.blks k D.flush = Dk at *
  have hwr := fun a cap => dwrite_ok p Dk (2 + V.J.ring + k : Nat) (plcS V.blks[k] k) a cap (by omega) (by rw [plcS_len hsz]; decide)
  have hwd : ((2 + V.J.ring + k : Nat) : Int) = 2 + (V.J.ring : Int) + k := by omega
  rw [hwd] at hwr
  have hps := psector_rt V.blks[k] k hsz
  have hS64 := plcS_len (block := k) hsz
  generalize plcS V.blks[k] k = S at *
  have hpl : plcC V.blks[k] = [.int .i64 (V.blks[k]).1, .string (V.blks[k]).2] := rfl
  repeat (first | refine GD ?_ | refine NW fun _ => ?_)
  refine RD 10 11 (_) ?_
  refine WP 0 ?_
  refine WP 1 ?_
  refine WP 2 ?_
  refine VV 3 ?_
  refine WP 4 ?_
  refine WP 5 ?_
  refine VL 7 (.agg (plcC V.blks[k]).toArray) rfl rfl rfl rfl (.inr ⟨rfl, plcC V.blks[k], rfl, rfl, Ent.whole MM⟩) ?_
  refine WP 8 ?_
  refine WH.only 6 rfl rfl (by kernel_rfl) rfl (OP.callRO rfl rfl (vat_ro v p j V.J.ring V.laid V.blks k (by omega) (by have := hV.J.1; omega)) (Ent.at (up_blk _ _ _) MM) rfl rfl ⟨fun _ => II, ?_⟩)
  refine WH.only 9 rfl rfl (by kernel_rfl) rfl (OP.callRT rfl rfl hps (fun _ _ => trivial) rfl rfl (fun x E hE' => ?_))
  obtain ⟨a9, cap9, rfl, rfl⟩ := hE'
  refine ⟨fun _ => II, ?_⟩
  refine WH.only 10 rfl rfl (by kernel_rfl) rfl (OP.call (pre := [dsk p Dk, ownS a9 S.length cap9 5 1 (S.map byteV)]) rfl rfl (hwr a9 cap9) PS rfl rfl (fun x M hM => ?_))
  unfold WrPost at hM
  rw [if_pos ⟨by omega, hS64⟩, ← hwd, Int.toNat_natCast] at hM
  obtain ⟨rfl, rfl⟩ := hM
  refine ⟨(fun h => nomatch h), ?_⟩
  refine DN ?_
  repeat (first | refine GD ?_ | refine NW fun _ => ?_)
  exact ⟨k + 1, by omega, by omega, ⟨rfl, rfl, rfl, rfl, trivial⟩, by rw [hst]; exact II⟩
end Go.Proofs.Yteednjcoapmkaaa
/- Contracts of functions of the given program, and plain laws on what they compute: parts of the proofs of laws. -/

namespace Go.Proofs.Yteednjcoapmkaaa
open Go Go.GL

theorem vtexts_write {V V' : Vol} {D D' : Dsk} {f : Nat} {B : Int} (I : VInv V D f B) {block : Int} {data : ByteArray} (h : writeV V D block data = .ok (V', D')) :
    VInv V' D' f (B + 2) ∧ V'.J.ring = V.J.ring ∧ V'.J.next = V.J.next + 1 ∧ (0 ≤ block ∧ block < 8) ∧ V'.texts = V.texts.set block.toNat data ∧ V'.laid = V.laid ∧ V'.J.hd = V.J.hd ∧ V'.J.held = V.J.held ++ [(V.J.hd.gen, V.J.next, 1, block, data, 0)] := by
  unfold writeV at h
  split at h
  · cases h
  rename_i hb
  split at h
  · cases h
  obtain ⟨I2, h1, h2, h3, h4, h5⟩ := I.append h
  have hb' : 0 ≤ block ∧ block < 8 := Classical.not_not.1 hb
  refine ⟨I2, h1, ?_, hb', ?_, h3, h2, h5⟩
  · unfold Jrn.next
    rw [h2, h5, List.length_append, List.length_singleton]
    omega
  · have hl : block.toNat < V.blks.length := by rw [I.b8]; omega
    have hn := I.blkN _ (List.getElem_mem hl)
    have htk : takeV V.blks (setSeq (0, 1, block, data, 0) V.J.next) = V.blks.set block.toNat (V.J.next, data) := by
      unfold takeV setSeq
      dsimp only
      rw [getD_lt hl, if_pos ⟨rfl, hn.1.2⟩]
    unfold Vol.texts
    rw [h4, htk, List.map_set]
theorem vtexts_mark {V V' : Vol} {D D' : Dsk} {f : Nat} {B : Int} (I : VInv V D f B) {number : Int} (h : markV V D number = .ok (V', D')) :
    VInv V' D' f (B + 2) ∧ V'.J.ring = V.J.ring ∧ V'.texts = V.texts ∧ V'.laid = V.laid ∧ V'.J.hd = V.J.hd ∧ V'.J.held = V.J.held ++ [(V.J.hd.gen, V.J.next, 2, 0, ⟨#[]⟩, number)] := by
  unfold markV at h
  obtain ⟨I2, h1, h2, h3, h4, h5⟩ := I.append h
  refine ⟨I2, h1, ?_, h3, h2, h5⟩
  have htk : takeV V.blks (setSeq (0, 2, 0, ⟨#[]⟩, number) V.J.next) = V.blks := takeV_id fun h => by cases h
  unfold Vol.texts
  rw [h4, htk]
set_option maxHeartbeats 16000000 in
set_option maxRecDepth 10000 in
theorem vmarks_ro (a : Option Addr) (n c : Nat) (l : List VOp) (hn : n = l.length) :
    RO G 7 [.slice a n c] (readS a n 4 (l.flatMap encO)) (.bool true) := by
  refine RO.enter Try.func7 rfl (by decide) rfl Try.ntmps7 rfl (fun A hu hA => ?_) (up_readS _ _ _ _)
  have hE : ∀ {L}, A ∈ L → Ent L (readS a n 4 (l.flatMap encO)) := fun m => Ent.mem m hu hA
  have hw : widest = 1152921504606846975 := rfl
  obtain ⟨ho, I0⟩ := VInv.fresh (n := 110) (ring := 100) (by decide) (by decide) (by decide) (by decide)
  repeat (first | refine GO ?_ | refine NW fun _ => ?_)
  refine WL.step rfl (OP.callRO rfl rfl vawake_ro (fun _ _ => trivial) rfl rfl ?_)
  repeat (first | refine GD ?_ | refine NW fun _ => ?_)
  refine WL.guardT rfl rfl rfl rfl (OP.callRO rfl rfl (vfew_ro a n c l hn) (hE MM) rfl rfl ?_)
  cases hf : fewV l
  · repeat (first | refine GD ?_ | refine NW fun _ => ?_)
    refine WL.step rfl (OP.callRO rfl rfl vawake_ro (fun _ _ => trivial) rfl rfl ?_)
    repeat (first | refine GD ?_ | refine NW fun _ => ?_)
    exact ret1 rfl ⟨rfl, MM⟩
  unfold fewV at hf
  rw [Bool.and_eq_true] at hf
  have h80 := of_decide_eq_true hf.1
  have hd : ∀ o ∈ l, o.2.2.1.size ≤ 100 := fun o ho => of_decide_eq_true (List.all_eq_true.1 hf.2 o ho)
  repeat (first | refine GD ?_ | refine NW fun _ => ?_)
  refine WL.step rfl (OP.callRO rfl rfl (vsectors_ro 100 (by decide)) (fun _ _ => trivial) rfl rfl ?_)
  refine WL.step rfl (OP.callRT rfl rfl (dnew_rt 110) (fun _ _ => trivial) rfl rfl ?_)
  rintro _ _ ⟨p, rfl, rfl⟩
  refine WL.step rfl (OP.call (pre := [dsk p (Dsk.new 110)]) rfl rfl (vopen_ok p (Dsk.new 110) 100 (Dsk.new_ok 110) (by decide) (by decide)) PS rfl rfl ?_)
  intro x M hO
  unfold OpenVP at hO
  have ho' : openV (Dsk.new 110) 100 = _ := ho
  rw [ho'] at hO
  obtain ⟨v, rfl, rfl⟩ := hO
  repeat (first | refine GO ?_ | refine NW fun _ => ?_)
  refine WC.loop (σ := Nat × Vol × Dsk × Nat × Int) (fun s => s.1 ≤ n ∧ VInv s.2.1 s.2.2.1 s.2.2.2.1 s.2.2.2.2 ∧ s.2.2.2.2 ≤ 3 + 2 * s.1)
    (fun s => [(0, .val (.slice a n c)), (3, .val (.pointer (some ⟨v, 0, none⟩))), (28, .val (.int .i64 n)), (29, .val (.int .i64 s.1))])
    (fun s => [vol v p s.2.1, dsk p s.2.2.1, A]) (fun s => n - s.1) (0, _, _, 0, 3) ⟨Nat.zero_le _, I0, (by show (3 : Int) ≤ 3 + 2 * ((0 : Nat) : Int); decide)⟩ ⟨rfl, rfl, rfl, rfl, trivial⟩ II ?_
  rintro ⟨k, V, D, f, B⟩ ⟨hk1, I, hB⟩
  dsimp only at hk1 I hB ⊢
  by_cases hlt : k < n
  rotate_left
  · repeat (first | refine GD ?_ | refine NW fun _ => ?_)
    exact ret1 rfl ⟨rfl, MM⟩
  have hlk : k < l.length := by omega
  have hod := hd l[k] (List.getElem_mem hlk)
  refine WC.fact (Ent.some (hE MM) (by omega)) ?_
  rintro ⟨b, off, rfl⟩
  have hel : ∀ {L} (i : Nat) (v : Value), Nat.blt i 4 = true → (encO l[k])[i]? = some v → A ∈ L → Ent L (cellAt b (off + k * 4 + i) v) := fun i v hi hv m => Ent.elF encO_len (hE m) hlk hi hv
  generalize l[k] = o at *
  obtain ⟨kind, num, data, keep⟩ := o
  dsimp only at hod
  have hr0 := I.rng (by omega)
  have ht8 : V.texts.length = 8 := by unfold Vol.texts; rw [List.length_map]; exact hr0.b8
  repeat (first | refine GD ?_ | refine NW fun _ => ?_)
  refine WL.step rfl (OP.callRT rfl rfl (vblocks_rt v p V hr0) (Ent.at (up_vol _ _ _) MM) rfl rfl ?_)
  rintro _ _ ⟨aw, capw, rfl, rfl⟩
  rw [ht8]
  repeat (first | refine GD ?_ | refine NW fun _ => ?_)
  refine WL.step rfl (OP.load1 (v := .int .i64 kind) rfl rfl rfl rfl (hel 0 _ rfl rfl MM) rfl rfl ?_)
  by_cases k1 : kind = 1
  · subst k1
    have hwr := vwrite_ok v p V D num data hr0 I.len I.j.few (by omega)
    unfold AppVP at hwr
    cases hq : writeV V D num data with
    | error y =>
      rw [hq] at hwr
      repeat (first | refine GD ?_ | refine NW fun _ => ?_)
      refine RD 11 17 (_) ?_
      refine WP 0 ?_
      refine WP 1 ?_
      refine WP 2 ?_
      refine WP 3 ?_
      refine WP 4 ?_
      refine VL 5 (.int .i64 num) rfl rfl rfl rfl (.inl ⟨rfl, hel 1 _ rfl rfl MM⟩) ?_
      refine WP 6 ?_
      refine WP 7 ?_
      refine WP 8 ?_
      refine WP 9 ?_
      refine VL 10 (.string data) rfl rfl rfl rfl (.inl ⟨rfl, hel 2 _ rfl rfl MM⟩) ?_
      refine WH.only 11 rfl rfl (by kernel_rfl) rfl (OP.call (pre := [vol v p V, dsk p D]) rfl rfl hwr PS rfl rfl (fun x M hM => ?_))
      obtain ⟨e, E, ⟨ch, hch, he, rfl⟩, rfl, rfl⟩ := hM
      refine ⟨(fun h => nomatch h), ?_⟩
      refine WP 12 ?_
      refine WP 13 ?_
      refine WP 14 ?_
      refine WP 15 ?_
      refine WP 16 ?_
      refine DN ?_
      obtain ⟨ye, yc⟩ := y
      cases ch with
      | nil =>
        refine absurd hch.symm ?_
        unfold writeV appV at hq
        split at hq
        · cases hq; exact fun h => nomatch h
        · split at hq
          · cases hq; exact fun h => nomatch h
          · split at hq
            · cases hq
            · cases hq; exact fun h => nomatch h
      | cons y1 ch =>
        dsimp only [valOf] at he
        subst he
        repeat (first | refine GD ?_ | refine NW fun _ => ?_)
        refine WL.step rfl (OP.callRT rfl rfl (vblocks_rt v p V hr0) (Ent.at (up_vol _ _ _) MM) rfl rfl ?_)
        rintro _ _ ⟨a4, cap4, rfl, rfl⟩
        rw [show V.texts.length = 8 from (List.length_map _).trans hr0.b8]
        repeat (first | refine GD ?_ | refine NW fun _ => ?_)
        refine WL.step rfl (OP.callRO rfl rfl (valike_ro a4 aw 8 cap4 capw V.texts V.texts ((List.length_map _).trans hr0.b8).symm ht8.symm (by decide)) (Ent.and (Ent.own (T := 9) MM) (Ent.own (T := 9) MM)) rfl rfl ?_)
        rw [decide_eq_true rfl]
        repeat (first | refine GD ?_ | refine NW fun _ => ?_)
        exact ⟨(k + 1, V, D, f, B), ⟨by dsimp only; omega, I, by dsimp only; omega⟩, by dsimp only; omega, ⟨rfl, rfl, rfl, rfl, trivial⟩, II⟩
    | ok y =>
      obtain ⟨V2, D2⟩ := y
      rw [hq] at hwr
      obtain ⟨I2, hr2, hn2, hb2, ht2, _⟩ := vtexts_write I hq
      have hrg2 := I2.rng (by omega)
      obtain ⟨m, rfl⟩ : ∃ m : Nat, num = m := ⟨num.toNat, by omega⟩
      rw [Int.toNat_natCast] at ht2
      have hnx : V2.J.next - 1 = V.J.next := by omega
      have hnb0 : 0 ≤ V.J.next ∧ V.J.next ≤ 4000000000000000000 := by have := I.j.hdr; have := I.j.bound; unfold Jrn.next; omega
      have hm8 : m < V.texts.length := by omega
      have hlw : 8 = (V.texts.set m data).length := by rw [List.length_set]; exact ht8.symm
      repeat (first | refine GD ?_ | refine NW fun _ => ?_)
      refine RD 11 17 (_) ?_
      refine WP 0 ?_
      refine WP 1 ?_
      refine WP 2 ?_
      refine WP 3 ?_
      refine WP 4 ?_
      refine VL 5 (.int .i64 m) rfl rfl rfl rfl (.inl ⟨rfl, hel 1 _ rfl rfl MM⟩) ?_
      refine WP 6 ?_
      refine WP 7 ?_
      refine WP 8 ?_
      refine WP 9 ?_
      refine VL 10 (.string data) rfl rfl rfl rfl (.inl ⟨rfl, hel 2 _ rfl rfl MM⟩) ?_
      refine WH.only 11 rfl rfl (by kernel_rfl) rfl (OP.call (pre := [vol v p V, dsk p D]) rfl rfl hwr PS rfl rfl (fun x M hM => ?_))
      obtain ⟨rfl, rfl⟩ := hM
      refine ⟨(fun h => nomatch h), ?_⟩
      refine WP 12 ?_
      refine WP 13 ?_
      refine WP 14 ?_
      refine WP 15 ?_
      refine WP 16 ?_
      refine DN ?_
      repeat (first | refine GD ?_ | refine NW fun _ => ?_)
      refine WL.step rfl (OP.callRO rfl rfl (vnext_ro v p V2 hrg2) (Ent.at (up_vol _ _ _) MM) rfl rfl ?_)
      rw [hn2]
      repeat (first | refine GD ?_ | refine NW fun _ => ?_)
      refine WC.fact (Ent.some (Ent.own (a := aw) (n := 8) (cap := capw) (T := 9) (size := 1) (cs := V.texts.flatMap strC) MM) (by decide)) ?_
      rintro ⟨bw, offw, rfl⟩
      refine RD 12 13 (_) ?_
      refine WP 0 ?_
      refine WP 1 ?_
      refine WP 2 ?_
      refine WP 3 ?_
      refine WP 4 ?_
      refine VL 5 (.int .i64 m) rfl rfl rfl rfl (.inl ⟨rfl, hel 1 _ rfl rfl MM⟩) ?_
      refine WP 6 ?_
      refine WP 7 ?_
      refine WP 8 ?_
      refine WP 9 ?_
      refine VL 10 (.string data) rfl rfl rfl rfl (.inl ⟨rfl, hel 2 _ rfl rfl MM⟩) ?_
      refine WP 11 ?_
      refine WH.only 12 rfl rfl (by kernel_rfl) rfl (OP.storeO (vs := strC data) (i := m * 1) rfl rfl rfl rfl rfl rfl rfl P1 (flat_set strC_len V.texts m data hm8) rfl ⟨(fun h => nomatch h), ?_⟩)
      refine DN ?_
      repeat (first | refine GD ?_ | refine NW fun _ => ?_)
      refine WL.step rfl (OP.callRT rfl rfl (vblocks_rt v p V2 hrg2) (Ent.at (up_vol _ _ _) MM) rfl rfl ?_)
      rintro _ _ ⟨a4, cap4, rfl, rfl⟩
      rw [show V2.texts.length = 8 from (List.length_map _).trans hrg2.b8]
      repeat (first | refine GD ?_ | refine NW fun _ => ?_)
      refine WL.step rfl (OP.callRO rfl rfl (valike_ro a4 (some ⟨bw, offw, none⟩) 8 cap4 capw V2.texts (V.texts.set m data) ((List.length_map _).trans hrg2.b8).symm hlw (by decide)) (Ent.and (Ent.own (T := 9) MM) (Ent.own (T := 9) MM)) rfl rfl ?_)
      rw [decide_eq_true ht2]
      repeat (first | refine GD ?_ | refine NW fun _ => ?_)
      exact ⟨(k + 1, V2, D2, f, B + 2), ⟨by dsimp only; omega, I2, by dsimp only; omega⟩, by dsimp only; omega, ⟨rfl, rfl, rfl, rfl, trivial⟩, II⟩
  by_cases k2 : kind = 2
  · subst k2
    have hwr := vmark_ok v p V D num hr0 I.len I.j.few
    unfold AppVP at hwr
    repeat (first | refine GD ?_ | refine NW fun _ => ?_)
    refine WL.step rfl (OP.load1 (v := .int .i64 num) rfl rfl rfl rfl (hel 1 _ rfl rfl MM) rfl rfl ?_)
    refine WL.step rfl (OP.call (pre := [vol v p V, dsk p D]) rfl rfl hwr PS rfl rfl ?_)
    intro x M hM
    cases hq : markV V D num with
    | error y =>
      rw [hq] at hM
      obtain ⟨ye, yc⟩ := y
      obtain ⟨e, E, ⟨ch, hch, he, rfl⟩, rfl, rfl⟩ := hM
      cases ch with
      | nil =>
        refine absurd hch.symm ?_
        unfold markV appV at hq
        split at hq
        · cases hq
        · cases hq; exact fun h => nomatch h
      | cons y1 ch =>
        dsimp only [valOf] at he
        subst he
        repeat (first | refine GD ?_ | refine NW fun _ => ?_)
        refine WL.step rfl (OP.callRT rfl rfl (vblocks_rt v p V hr0) (Ent.at (up_vol _ _ _) MM) rfl rfl ?_)
        rintro _ _ ⟨a4, cap4, rfl, rfl⟩
        rw [show V.texts.length = 8 from (List.length_map _).trans hr0.b8]
        repeat (first | refine GD ?_ | refine NW fun _ => ?_)
        refine WL.step rfl (OP.callRO rfl rfl (valike_ro a4 aw 8 cap4 capw V.texts V.texts ((List.length_map _).trans hr0.b8).symm ht8.symm (by decide)) (Ent.and (Ent.own (T := 9) MM) (Ent.own (T := 9) MM)) rfl rfl ?_)
        rw [decide_eq_true rfl]
        repeat (first | refine GD ?_ | refine NW fun _ => ?_)
        exact ⟨(k + 1, V, D, f, B), ⟨by dsimp only; omega, I, by dsimp only; omega⟩, by dsimp only; omega, ⟨rfl, rfl, rfl, rfl, trivial⟩, II⟩
    | ok y =>
      obtain ⟨V2, D2⟩ := y
      rw [hq] at hM
      obtain ⟨rfl, rfl⟩ := hM
      obtain ⟨I2, hr2, ht2, _⟩ := vtexts_mark I hq
      have hrg2 := I2.rng (by omega)
      have hnb0 : 0 < V.J.next ∧ V.J.next ≤ 4000000000000000000 := by have := I.j.hdr; have := I.j.bound; unfold Jrn.next; omega
      repeat (first | refine GD ?_ | refine NW fun _ => ?_)
      refine WL.step rfl (OP.callRT rfl rfl (vblocks_rt v p V2 hrg2) (Ent.at (up_vol _ _ _) MM) rfl rfl ?_)
      rintro _ _ ⟨a4, cap4, rfl, rfl⟩
      rw [show V2.texts.length = 8 from (List.length_map _).trans hrg2.b8]
      repeat (first | refine GD ?_ | refine NW fun _ => ?_)
      refine WL.step rfl (OP.callRO rfl rfl (valike_ro a4 aw 8 cap4 capw V2.texts V.texts ((List.length_map _).trans hrg2.b8).symm ht8.symm (by decide)) (Ent.and (Ent.own (T := 9) MM) (Ent.own (T := 9) MM)) rfl rfl ?_)
      rw [decide_eq_true ht2]
      repeat (first | refine GD ?_ | refine NW fun _ => ?_)
      exact ⟨(k + 1, V2, D2, f, B + 2), ⟨by dsimp only; omega, I2, by dsimp only; omega⟩, by dsimp only; omega, ⟨rfl, rfl, rfl, rfl, trivial⟩, II⟩
  by_cases k4 : kind = 4
  · subst k4
    repeat (first | refine GD ?_ | refine NW fun _ => ?_)
    refine WL.step rfl (OP.call (pre := [vol v p V, dsk p D]) rfl rfl (vflush_ok v p V D I.j.dok I.j.few) PS rfl rfl ?_)
    rintro _ _ ⟨rfl, rfl⟩
    have I2 := I.flush (by omega)
    repeat (first | refine GD ?_ | refine NW fun _ => ?_)
    refine WL.step rfl (OP.callRT rfl rfl (vblocks_rt v p V hr0) (Ent.at (up_vol _ _ _) MM) rfl rfl ?_)
    rintro _ _ ⟨a4, cap4, rfl, rfl⟩
    rw [show V.texts.length = 8 from (List.length_map _).trans hr0.b8]
    repeat (first | refine GD ?_ | refine NW fun _ => ?_)
    refine WL.step rfl (OP.callRO rfl rfl (valike_ro a4 aw 8 cap4 capw V.texts V.texts ((List.length_map _).trans hr0.b8).symm ht8.symm (by decide)) (Ent.and (Ent.own (T := 9) MM) (Ent.own (T := 9) MM)) rfl rfl ?_)
    rw [decide_eq_true rfl]
    repeat (first | refine GD ?_ | refine NW fun _ => ?_)
    exact ⟨(k + 1, V, D.flush, V.J.held.length, B), ⟨by dsimp only; omega, I2, by dsimp only; omega⟩, by dsimp only; omega, ⟨rfl, rfl, rfl, rfl, trivial⟩, II⟩
  by_cases k5 : kind = 5
  · subst k5
    have hck := vcheck_ok v p V D num hr0 I.j.dok I.len (by have := I.j.wlen; have := I.j.len; have := I.j.ring; omega)
    unfold CkVP at hck
    repeat (first | refine GD ?_ | refine NW fun _ => ?_)
    refine WL.step rfl (OP.load1 (v := .int .i64 num) rfl rfl rfl rfl (hel 1 _ rfl rfl MM) rfl rfl ?_)
    refine WL.step rfl (OP.call (pre := [vol v p V, dsk p D]) rfl rfl hck PS rfl rfl ?_)
    intro x M hM
    cases hq : ckV V D num with
    | error y =>
      rw [hq] at hM
      obtain ⟨E, ⟨ch, hch, rfl, rfl⟩, rfl⟩ := hM
      repeat (first | refine GD ?_ | refine NW fun _ => ?_)
      refine WL.step rfl (OP.callRT rfl rfl (vblocks_rt v p V hr0) (Ent.at (up_vol _ _ _) MM) rfl rfl ?_)
      rintro _ _ ⟨a4, cap4, rfl, rfl⟩
      rw [show V.texts.length = 8 from (List.length_map _).trans hr0.b8]
      repeat (first | refine GD ?_ | refine NW fun _ => ?_)
      refine WL.step rfl (OP.callRO rfl rfl (valike_ro a4 aw 8 cap4 capw V.texts V.texts ((List.length_map _).trans hr0.b8).symm ht8.symm (by decide)) (Ent.and (Ent.own (T := 9) MM) (Ent.own (T := 9) MM)) rfl rfl ?_)
      rw [decide_eq_true rfl]
      repeat (first | refine GD ?_ | refine NW fun _ => ?_)
      exact ⟨(k + 1, V, D, f, B), ⟨by dsimp only; omega, I, by dsimp only; omega⟩, by dsimp only; omega, ⟨rfl, rfl, rfl, rfl, trivial⟩, II⟩
    | ok y =>
      obtain ⟨V2, D2⟩ := y
      rw [hq] at hM
      obtain ⟨rfl, rfl⟩ := hM
      obtain ⟨I2, ht2, hr2, _⟩ := I.ck (by omega) hq
      have hrg2 := I2.rng (by omega)
      have htx : V.texts = V2.texts := by unfold Vol.texts; rw [ht2]
      repeat (first | refine GD ?_ | refine NW fun _ => ?_)
      refine WL.step rfl (OP.callRT rfl rfl (vblocks_rt v p V2 hrg2) (Ent.at (up_vol _ _ _) MM) rfl rfl ?_)
      rintro _ _ ⟨a4, cap4, rfl, rfl⟩
      rw [show V2.texts.length = 8 from (List.length_map _).trans hrg2.b8]
      repeat (first | refine GD ?_ | refine NW fun _ => ?_)
      refine WL.step rfl (OP.callRO rfl rfl (valike_ro a4 aw 8 cap4 capw V2.texts V.texts ((List.length_map _).trans hrg2.b8).symm ht8.symm (by decide)) (Ent.and (Ent.own (T := 9) MM) (Ent.own (T := 9) MM)) rfl rfl ?_)
      rw [decide_eq_true htx.symm]
      repeat (first | refine GD ?_ | refine NW fun _ => ?_)
      exact ⟨(k + 1, V2, D2, V2.J.held.length, B + 2), ⟨by dsimp only; omega, I2, by dsimp only; omega⟩, by dsimp only; omega, ⟨rfl, rfl, rfl, rfl, trivial⟩, II⟩
  · repeat (first | refine GD ?_ | refine NW fun _ => ?_)
    refine WL.step rfl (OP.callRT rfl rfl (vblocks_rt v p V hr0) (Ent.at (up_vol _ _ _) MM) rfl rfl ?_)
    rintro _ _ ⟨a4, cap4, rfl, rfl⟩
    rw [show V.texts.length = 8 from (List.length_map _).trans hr0.b8]
    repeat (first | refine GD ?_ | refine NW fun _ => ?_)
    refine WL.step rfl (OP.callRO rfl rfl (valike_ro a4 aw 8 cap4 capw V.texts V.texts ((List.length_map _).trans hr0.b8).symm ht8.symm (by decide)) (Ent.and (Ent.own (T := 9) MM) (Ent.own (T := 9) MM)) rfl rfl ?_)
    rw [decide_eq_true rfl]
    repeat (first | refine GD ?_ | refine NW fun _ => ?_)
    exact ⟨(k + 1, V, D, f, B), ⟨by dsimp only; omega, I, by dsimp only; omega⟩, by dsimp only; omega, ⟨rfl, rfl, rfl, rfl, trivial⟩, II⟩
end Go.Proofs.Yteednjcoapmkaaa
