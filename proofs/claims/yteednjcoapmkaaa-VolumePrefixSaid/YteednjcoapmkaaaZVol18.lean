/-
  The law VolumePrefix holds: whatever the input, the Go function returns true, and each argument reads as it did. Conditions: none beyond the statement's own.
-/
import Derived.Test.YteednjcoapmkaaaZVol7
import Derived.Test.YteednjcoapmkaaaZVol17
import Derived.Test.YteednjcoapmkaaaZVol13
import Derived.Test.YteednjcoapmkaaaRows
import Derived.Test.YteednjcoapmkaaaZVol5
/- Contracts of functions of the given program, and plain laws on what they compute: parts of the proofs of laws. -/
namespace Go.Proofs.Yteednjcoapmkaaa
open Go Go.GL

/-! what the blocks were: the plain law of VolumePrefix -/
def preT (V : Vol) (p : Nat) : List ByteArray := (takeAll V.laid (V.J.held.take p)).map Prod.snd
structure VHist (V : Vol) (f : Nat) (T : List (List ByteArray)) (sure : Nat) : Prop where
  pos : 0 < T.length
  last : T.getD (T.length - 1) [] = V.texts
  pre : ∀ p, f ≤ p → p ≤ V.J.held.length → ∃ i, sure ≤ i ∧ i < T.length ∧ T.getD i [] = preT V p
section
variable {V V' : Vol} {D D' : Dsk} {f : Nat} {B : Int} {T : List (List ByteArray)} {sure : Nat}
theorem preT_all (h : V.blks = takeAll V.laid V.J.held) : preT V V.J.held.length = V.texts := by unfold preT Vol.texts; rw [List.take_length, h]
theorem VHist.point (h : V.blks = takeAll V.laid V.J.held) (hp : 0 < T.length) (hl : T.getD (T.length - 1) [] = V.texts) : VHist V V.J.held.length T (T.length - 1) :=
  ⟨hp, hl, fun p h1 h2 => ⟨T.length - 1, Nat.le_refl _, by omega, by rw [show p = V.J.held.length by omega, preT_all h]; exact hl⟩⟩
theorem VHist.low (H : VHist V f T sure) (hf : f ≤ V.J.held.length) : sure < T.length := by
  obtain ⟨i, h1, h2, _⟩ := H.pre _ hf (Nat.le_refl _)
  omega
theorem VHist.append (H : VHist V f T sure) (h : V'.blks = takeAll V'.laid V'.J.held) (hl : V'.laid = V.laid) {x : Held} (hx : V'.J.held = V.J.held ++ [x]) (hf : f ≤ V.J.held.length) : VHist V' f (T ++ [V'.texts]) sure := by
  have hlast : (T ++ [V'.texts]).getD T.length [] = V'.texts := by rw [List.getD_eq_getElem?_getD, List.getElem?_append_right (Nat.le_refl _), Nat.sub_self]; rfl
  have hlow := H.low hf
  refine ⟨by simp, ?_, fun p h1 h2 => ?_⟩
  · rw [List.length_append, List.length_singleton, Nat.add_sub_cancel]; exact hlast
  · rw [hx, List.length_append, List.length_singleton] at h2
    by_cases hp : p ≤ V.J.held.length
    · obtain ⟨i, i1, i2, i3⟩ := H.pre p h1 hp
      refine ⟨i, i1, by rw [List.length_append]; omega, ?_⟩
      rw [List.getD_eq_getElem?_getD, List.getElem?_append_left i2, ← List.getD_eq_getElem?_getD, i3]
      unfold preT
      rw [hl, hx, List.take_append_of_le_length hp]
    · refine ⟨T.length, by omega, by simp, ?_⟩
      have e : p = V'.J.held.length := by rw [hx]; simp; omega
      rw [hlast, e, preT_all h]
theorem VHist.keep (H : VHist V f T sure) (h : V'.blks = takeAll V'.laid V'.J.held) (hl : V'.laid = V.laid) (ht : V'.texts = V.texts) {x : Held} (hx : V'.J.held = V.J.held ++ [x]) (hf : f ≤ V.J.held.length) : VHist V' f T sure := by
  have hlow := H.low hf
  refine ⟨H.pos, H.last.trans ht.symm, fun p h1 h2 => ?_⟩
  rw [hx, List.length_append, List.length_singleton] at h2
  by_cases hp : p ≤ V.J.held.length
  · obtain ⟨i, i1, i2, i3⟩ := H.pre p h1 hp
    refine ⟨i, i1, i2, ?_⟩
    rw [i3]
    unfold preT
    rw [hl, hx, List.take_append_of_le_length hp]
  · refine ⟨T.length - 1, by omega, by omega, ?_⟩
    have e : p = V'.J.held.length := by rw [hx]; simp; omega
    rw [e, preT_all h, ht]
    exact H.last
end
/-! several lists of texts in memory -/
abbrev Row := Option Addr × Nat × List ByteArray
def rowV (x : Row) : Value := .slice x.1 8 x.2.1
def rowO (x : Row) : Assn := ownS x.1 8 x.2.1 9 1 (x.2.2.flatMap strC)
def rowsA (l : List Row) : Assn := stars (l.map rowO)
def rowsT (l : List Row) : List (List ByteArray) := l.map (fun x => x.2.2)
structure PSt where
  k : Nat
  v : Nat
  aS : Option Addr
  cS : Nat
  rows : List Row
  V : Vol
  D : Dsk
  f : Nat
  B : Int
  sure : Nat
theorem up_rowsA (l : List Row) : Up (rowsA l) := fun _ _ le s => stars_mono le s
theorem rowsA_nil {M : List Assn} : Imp M (rowsA [] :: M) := fun h s => ⟨Hp.empty, h, fun _ => .inl rfl, by funext b; simp [Hp.join, Hp.empty], trivial, s⟩
theorem rowsA_snoc {l : List Row} {x : Row} {M : List Assn} : Imp (rowsA l :: rowO x :: M) (rowsA (l ++ [x]) :: M) := fun h s => by
  have h1 : stars (l.map rowO ++ rowO x :: M) h := stars_append.2 s
  rw [show l.map rowO ++ rowO x :: M = (l ++ [x]).map rowO ++ M by simp] at h1
  exact stars_append.1 h1
theorem rowsA_drop {M : List Assn} : ∀ (E : List Assn), Imp (E ++ M) M
  | [] => Imp.refl _
  | _ :: E => Imp.dropTail (rowsA_drop E)
theorem rowsA_take {l : List Row} {k : Nat} {M : List Assn} : Imp (rowsA l :: M) (rowsA (l.take k) :: M) := fun h s => by
  have h1 : stars (l.map rowO ++ M) h := stars_append.2 s
  rw [show l.map rowO ++ M = (l.take k).map rowO ++ ((l.drop k).map rowO ++ M) by rw [← List.append_assoc, ← List.map_append, List.take_append_drop]] at h1
  exact (Imp.cons (rowsA_drop _)) h (stars_append.1 h1)
theorem rowsA_get {l : List Row} {L : List Assn} (m : rowsA l ∈ L) {i : Nat} (hi : i < l.length) : Ent L (readS (l[i]).1 8 1 ((l[i]).2.2.flatMap strC)) :=
  Ent.mem m (up_rowsA l) fun k s => (Ent.own (T := 9) (cap := (l[i]).2.1) (List.mem_map_of_mem (f := rowO) (List.getElem_mem hi))) k s
theorem rowsV_get {l : List Row} {k : Nat} (h : k < l.length) : (l.map rowV)[k * 1]? = some (rowV l[k]) := by simp [h]
theorem rowsT_get {l : List Row} {k : Nat} (h : k < l.length) : (rowsT l).getD k [] = (l[k]).2.2 := by
  unfold rowsT
  rw [List.getD_eq_getElem?_getD, List.getElem?_map, List.getElem?_eq_getElem h]; rfl
theorem rowsT_len (l : List Row) : (rowsT l).length = l.length := List.length_map _
end Go.Proofs.Yteednjcoapmkaaa
/- Contracts of functions of the given program, and plain laws on what they compute: parts of the proofs of laws. -/

namespace Go.Proofs.Yteednjcoapmkaaa
open Go Go.GL

/-! power ends -/
theorem bit_u64 {t : Int} (h : 0 ≤ t ∧ t ≤ 18446744073709551615) {i : Nat} (hi : i < 64) : (bitsV .and .u64 (shrV .u64 t (i : Int)) 1 = 1) ↔ t.toNat.testBit i = true := by
  obtain ⟨n, rfl⟩ : ∃ n : Nat, t = n := ⟨t.toNat, by omega⟩
  have e : shrV .u64 (n : Int) (i : Int) = ((n / 2 ^ i : Nat) : Int) := by
    unfold shrV
    rw [Int.toNat_natCast, Nat.min_eq_left (by show i ≤ 64; omega), Int.fdiv_eq_ediv_of_nonneg _ (by exact Int.pow_nonneg (by decide)), Int.natCast_ediv, Int.natCast_pow]; rfl
  have hlt : n / 2 ^ i < 2 ^ 64 := Nat.lt_of_le_of_lt (Nat.div_le_self _ _) (by omega)
  rw [e, Int.toNat_natCast, Nat.testBit_eq_decide_div_mod_eq, decide_eq_true_eq]
  generalize n / 2 ^ i = m at *
  have h1 : (BitVec.ofInt 64 (m : Int)).toNat = m := by rw [BitVec.toNat_ofInt]; omega
  have h2 : (BitVec.ofInt 64 (m : Int) &&& BitVec.ofInt 64 1).toNat = m % 2 := by
    rw [BitVec.toNat_and, h1]; exact Nat.and_one_is_mod _
  show IntKind.u64.wrap ((BitVec.ofInt 64 (m : Int) &&& BitVec.ofInt 64 1).toNat : Int) = 1 ↔ _
  rw [h2, wrap_fit (k := .u64) (by unfold Fit; omega)]
  omega
set_option maxRecDepth 10000 in
theorem dcrash1_ro (c : Nat) (keep : Int) (hk : 0 ≤ keep ∧ keep < 18446744073709551616) (j : Nat) : RO G 44 [.int .i64 j, .pointer (some ⟨c, 0, none⟩)] (cellAt c 0 (.int .u64 keep)) (.bool (keeps keep j)) := by
  refine RO.enter Try.func44 rfl (by decide) rfl Try.ntmps44 rfl (fun A hu hA => ?_) (up_cellAt _ _ _)
  repeat (first | refine GO ?_ | refine NW fun _ => ?_)
  refine WL.step rfl (OP.load1 (v := .int .u64 keep) rfl rfl rfl rfl (Ent.mem MM hu hA) rfl rfl ?_)
  repeat (first | refine GO ?_ | refine NW fun _ => ?_)
  refine ret1 rfl ⟨?_, MM⟩
  have e : (decide (bitsV BinOp.and IntKind.u64 (shrV IntKind.u64 keep ((j : Int) % 64)) 1 = 1)) = keeps keep j := by
    have hb := bit_u64 (t := keep) (by omega) (show j % 64 < 64 by omega)
    rw [show ((j : Int) % 64) = ((j % 64 : Nat) : Int) by omega]
    unfold keeps
    cases hx : keep.toNat.testBit (j % 64)
    · exact decide_eq_false (fun h => by rw [hb.1 h] at hx; cases hx)
    · exact decide_eq_true (hb.2 hx)
  rw [e]
theorem Imp.blkC {b : Nat} {v : Value} {T : TypeId} {L : List Assn} : Imp (blk b [v] T :: L) (cellAt b 0 v :: L) :=
  fun _ s => stars_head_mono (fun h x => (Ent.blk (L := [blk b [v] T]) (List.Mem.head _) rfl) h ⟨h, Hp.empty, fun _ => .inr rfl, by funext b; simp [Hp.join, Hp.empty], x, trivial⟩) s
/-- a power's end: what is loose is kept, or not, as the number's bits tell -/
theorem dcrash_ok (p : Nat) (D : Dsk) (keep : Int) (hk : 0 ≤ keep ∧ keep < 18446744073709551616) (hD : D.ok) (hw : D.W.length < 1000000) : Triple G 20 [.pointer (some ⟨p, 0, none⟩), .int .u64 keep] [dsk p D] (fun v M => v = .tuple #[] ∧ M = [dsk p (D.crash keep)]) := by
  refine Triple.enter Try.func20 rfl (by decide) rfl Try.ntmps20 rfl (fun F => ?_)
  repeat (first | refine GO ?_ | refine NW fun _ => ?_)
  rename_i c
  refine WL.step rfl (OP.makeF rfl rfl rfl rfl ?_)
  repeat (first | refine GO ?_ | refine NW fun _ => ?_)
  refine WL.step rfl (OP.call (pre := [dsk p D, cellAt c 0 (.int .u64 keep)]) rfl rfl (dsettle_ok p D hD hw 44 [.pointer (some ⟨c, 0, none⟩)] (cellAt c 0 (.int .u64 keep)) (up_cellAt _ _ _) (keeps keep) (fun j _ => dcrash1_ro c keep hk j)) (Imp.blkC.trans PS) rfl rfl ?_)
  rintro _ _ ⟨rfl, rfl⟩
  repeat (first | refine GO ?_ | refine NW fun _ => ?_)
  exact ret0n ⟨_, ⟨rfl, rfl⟩, II⟩
end Go.Proofs.Yteednjcoapmkaaa
/- Contracts of functions of the given program, and plain laws on what they compute: parts of the proofs of laws. -/

namespace Go.Proofs.Yteednjcoapmkaaa
open Go Go.GL

set_option maxHeartbeats 32000000 in
set_option maxRecDepth 10000 in
theorem vprefix_ro (r : UInt8) (a : Option Addr) (n c : Nat) (l : List VOp) (hn : n = l.length) (hk : ∀ o ∈ l, 0 ≤ o.2.2.2 ∧ o.2.2.2 < 18446744073709551616) :
    RO G 8 [.int .u8 (r.toNat : Int), .slice a n c] (readS a n 4 (l.flatMap encO)) (.bool true) := by
  refine RO.enter Try.func8 rfl (by decide) rfl Try.ntmps8 rfl (fun A hu hA => ?_) (up_readS _ _ _ _)
  have hE : ∀ {L}, A ∈ L → Ent L (readS a n 4 (l.flatMap encO)) := fun m => Ent.mem m hu hA
  have hw : widest = 1152921504606846975 := rfl
  have hr8 := r.toNat_lt
  repeat (first | refine GO ?_ | refine NW fun _ => ?_)
  refine WL.step rfl (OP.callRO rfl rfl vawake_ro (fun _ _ => trivial) rfl rfl ?_)
  repeat (first | refine GD ?_ | refine NW fun _ => ?_)
  refine WL.guardT rfl rfl rfl rfl (OP.callRO rfl rfl (vfew_ro a n c l hn) (hE MM) rfl rfl ?_)
  cases hf : fewV l
  · repeat (first | refine GD ?_ | refine NW fun _ => ?_)
    refine WL.step rfl (OP.callRO rfl rfl vawake_ro (fun _ _ => trivial) rfl rfl ?_)
    repeat (first | refine GD ?_ | refine NW fun _ => ?_)
    exact ret1 rfl ⟨rfl, MM⟩
  unfold fewV at hf
  rw [Bool.and_eq_true] at hf
  have h80 := of_decide_eq_true hf.1
  have hd : ∀ o ∈ l, o.2.2.1.size ≤ 100 := fun o ho => of_decide_eq_true (List.all_eq_true.1 hf.2 o ho)
  obtain ⟨N, hN, hN1, hN2⟩ : ∃ N : Nat, 1 + (r.toNat : Int) % 12 = N ∧ 1 ≤ N ∧ N ≤ 12 := ⟨1 + r.toNat % 12, by omega, by omega, by omega⟩
  obtain ⟨ho, I0⟩ := VInv.fresh (n := 10 + N) (ring := N) hN1 (by omega) (Nat.le_refl _) (by omega)
  repeat (first | refine GD ?_ | refine NW fun _ => ?_)
  rw [hN]
  refine WL.step rfl (OP.callRO rfl rfl (vsectors_ro N (by omega)) (fun _ _ => trivial) rfl rfl ?_)
  rw [show 2 + (N : Int) + 8 = ((10 + N : Nat) : Int) by omega]
  refine WL.step rfl (OP.callRT rfl rfl (dnew_rt ((10 + N : Nat) : Int)) (fun _ _ => trivial) rfl rfl ?_)
  rintro _ _ ⟨p, rfl, rfl⟩
  have hop := vopen_ok p (Dsk.new ((10 + N : Nat) : Int)) N (Dsk.new_ok _) (by show (0 : Nat) < 10000; decide) (by omega)
  unfold OpenVP at hop
  rw [ho] at hop
  repeat (first | refine GD ?_ | refine NW fun _ => ?_)
  refine WL.step rfl (OP.call (pre := [dsk p (Dsk.new ((10 + N : Nat) : Int))]) rfl rfl hop PS rfl rfl ?_)
  rintro x M ⟨v, rfl, rfl⟩
  clear hop
  generalize saveM (Dsk.new ((10 + N : Nat) : Int)) ⟨1, 1, 1, 0⟩ = D0 at *
  generalize hV0 : (⟨⟨N, ⟨1, 1, 1, 0⟩, []⟩, List.replicate 8 plc0, List.replicate 8 plc0⟩ : Vol) = V0 at *
  have hring0 : V0.J.ring = N := by rw [← hV0]
  have hheld0 : V0.J.held.length = 0 := by rw [← hV0]; rfl
  have hrg0 := I0.rng (by omega)
  have htl : ∀ {V : Vol}, V.rng → V.texts.length = 8 := fun h => (List.length_map _).trans h.b8
  repeat (first | refine GD ?_ | refine NW fun _ => ?_)
  refine WL.step rfl (OP.callRT rfl rfl (vblocks_rt v p V0 hrg0) (Ent.at (up_vol _ _ _) MM) rfl rfl ?_)
  rintro _ _ ⟨a0, cap0, rfl, rfl⟩
  rw [htl hrg0]
  repeat (first | refine GD ?_ | refine NW fun _ => ?_)
  rename_i bS
  refine WC.loop (σ := PSt) (fun s => s.k ≤ n ∧ VInv s.V s.D s.f s.B ∧ s.B ≤ 3 + 2 * s.k ∧ s.V.J.ring = N ∧ VHist s.V s.f (rowsT s.rows) s.sure ∧ s.rows.length ≤ s.k + 1 ∧ ∀ x ∈ s.rows, x.2.2.length = 8)
    (fun s => [(1, .val (.slice a n c)), (5, .val (.int .i64 N)), (6, .val (.pointer (some ⟨p, 0, none⟩))), (7, .val (.pointer (some ⟨s.v, 0, none⟩))), (9, .val (.slice s.aS s.rows.length s.cS)), (10, .val (.int .i64 s.sure)), (45, .val (.int .i64 n)), (46, .val (.int .i64 s.k))])
    (fun s => [ownS s.aS s.rows.length s.cS 57 1 (s.rows.map rowV), rowsA s.rows, vol s.v p s.V, dsk p s.D, A]) (fun s => n - s.k) ⟨0, v, some ⟨bS, 0, none⟩, 1, [(a0, cap0, V0.texts)], V0, D0, 0, 3, 0⟩
    ⟨Nat.zero_le _, I0, (by show (3 : Int) ≤ 3 + 2 * ((0 : Nat) : Int); decide), hring0, (by have := VHist.point (T := rowsT [(a0, cap0, V0.texts)]) I0.blks (Nat.lt_succ_self 0) rfl; rw [hheld0] at this; exact this), Nat.le_refl _, (fun x hx => by rw [List.mem_singleton.1 hx]; exact htl hrg0)⟩ ⟨rfl, rfl, rfl, rfl, rfl, rfl, rfl, rfl, trivial⟩
    (Imp.trans (M := [ownS (some ⟨bS, 0, none⟩) 1 1 57 1 ([(a0, cap0, V0.texts)].map rowV), rowO (a0, cap0, V0.texts), vol v p V0, dsk p D0, A]) (Imp.refl _) (Imp.cons (Imp.trans rowsA_nil rowsA_snoc))) ?_
  clear I0 ho hV0 hring0 hheld0 hrg0
  clear V0 D0 a0 cap0 bS v
  rintro ⟨k, v, aS, cS, rows, V, D, f, B, sure⟩ ⟨hk1, I, hB, hring, H, hrl, hr8s⟩
  dsimp only at hk1 I hB hring H hrl hr8s ⊢
  have hr0 := I.rng (by omega)
  have hlow := H.low I.j.fle
  have hpos := H.pos
  rw [rowsT_len] at hlow hpos
  have hrow8 := htl hr0
  have hlast := H.last
  rw [rowsT_len, rowsT_get (by omega)] at hlast
  by_cases hlt : k < n
  rotate_left
  · refine WC.fact (Ent.some (Ent.own (a := aS) (n := rows.length) (cap := cS) (T := 57) (size := 1) (cs := rows.map rowV) MM) (by omega)) ?_
    rintro ⟨bS, oS, rfl⟩
    have hrg := rowsV_get (l := rows) (k := rows.length - 1) (by omega)
    have hidx : (rows.length : Int) - 1 = ((rows.length - 1 : Nat) : Int) := by omega
    repeat (first | refine GD ?_ | refine NW fun _ => ?_)
    refine RD 10 10 (_) ?_
    refine WP 0 ?_
    refine WP 2 ?_
    refine WP 3 ?_
    refine WP 4 ?_
    refine WP 5 ?_
    rw [hidx]
    refine WP 6 ?_
    refine VL 7 (rowV rows[rows.length - 1]) rfl rfl rfl rfl (.inl ⟨rfl, Ent.elem (Ent.own (T := 57) MM) rfl hrg⟩) ?_
    refine WH.only 1 rfl rfl (by kernel_rfl) rfl (OP.callRT rfl rfl (vblocks_rt v p V hr0) (Ent.at (up_vol _ _ _) MM) rfl rfl (fun x E hE' => ?_))
    obtain ⟨a4, cap4, rfl, rfl⟩ := hE'
    rw [hrow8]
    refine ⟨fun _ => II, ?_⟩
    refine WH.only 8 rfl rfl (by kernel_rfl) rfl (OP.callRO rfl rfl (valike_ro a4 (rows[rows.length - 1]).1 8 cap4 (rows[rows.length - 1]).2.1 V.texts (rows[rows.length - 1]).2.2 hrow8.symm (by rw [hlast]; exact hrow8.symm) (by decide)) (Ent.and (Ent.own (T := 9) MM) (rowsA_get MM (by omega))) rfl rfl ⟨fun _ => II, ?_⟩)
    rw [decide_eq_true hlast.symm]
    refine WP 9 ?_
    refine DN ?_
    repeat (first | refine GD ?_ | refine NW fun _ => ?_)
    exact ret1 rfl ⟨rfl, MM⟩
  have hlk : k < l.length := by omega
  have hod := hd l[k] (List.getElem_mem hlk)
  have hok := hk l[k] (List.getElem_mem hlk)
  refine WC.fact (Ent.some (hE MM) (by omega)) ?_
  rintro ⟨b, off, rfl⟩
  have hel : ∀ {L}, A ∈ L → Ent L (cellsAt b (off + k * 4) (encO l[k])) := fun m => Ent.elA encO_len (hE m) hlk
  generalize l[k] = o at *
  obtain ⟨kind, num, data, keep⟩ := o
  dsimp only at hod hok
  rw [show encO (kind, num, data, keep) = [.int .i64 kind, .int .i64 num, .string data, .int .u64 keep] from rfl] at hel
  repeat (first | refine GD ?_ | refine NW fun _ => ?_)
  refine WL.step rfl (OP.loadA (l := [.int .i64 kind, .int .i64 num, .string data, .int .u64 keep]) rfl rfl rfl rfl (hel MM) rfl rfl rfl ?_)
  have hBw : B + 2 ≤ widest := by omega
  have hs1 : (rows.length : Int) - 1 = ((rows.length - 1 : Nat) : Int) := by omega
  by_cases k1 : kind = 1
  · subst k1
    have hwr := vwrite_ok v p V D num data hr0 I.len I.j.few (by omega)
    unfold AppVP at hwr
    repeat (first | refine GD ?_ | refine NW fun _ => ?_)
    refine WL.step rfl (OP.call (pre := [vol v p V, dsk p D]) rfl rfl hwr PS rfl rfl ?_)
    intro x M hM
    cases hq : writeV V D num data with
    | error y =>
      rw [hq] at hM
      obtain ⟨ye, yc⟩ := y
      obtain ⟨e, E, ⟨ch, hch, he, rfl⟩, rfl, rfl⟩ := hM
      cases ch with
      | nil =>
        refine absurd hch.symm ?_
        unfold writeV appV at hq
        split at hq
        · cases hq; exact fun h => nomatch h
        · split at hq
          · cases hq; exact fun h => nomatch h
          · split at hq
            · cases hq
            · cases hq; exact fun h => nomatch h
      | cons y1 ch =>
        dsimp only [valOf] at he
        subst he
        repeat (first | refine GD ?_ | refine NW fun _ => ?_)
        exact ⟨⟨k + 1, v, aS, cS, rows, V, D, f, B, sure⟩, ⟨by dsimp only; omega, I, by dsimp only; omega, hring, H, by dsimp only; omega, hr8s⟩, by dsimp only; omega, ⟨rfl, rfl, rfl, rfl, rfl, rfl, rfl, rfl, trivial⟩, II⟩
    | ok y =>
      obtain ⟨V2, D2⟩ := y
      rw [hq] at hM
      obtain ⟨rfl, rfl⟩ := hM
      obtain ⟨I2, hr2, _, _, _, hl2, _, hh2⟩ := vtexts_write I hq
      have hrg2 := I2.rng (by omega)
      have H2 := H.append I2.blks hl2 hh2 I.j.fle
      repeat (first | refine GD ?_ | refine NW fun _ => ?_)
      refine WL.step rfl (OP.callRT rfl rfl (vblocks_rt v p V2 hrg2) (Ent.at (up_vol _ _ _) MM) rfl rfl ?_)
      rintro _ _ ⟨a4, cap4, rfl, rfl⟩
      rw [htl hrg2]
      repeat (first | refine GD ?_ | refine NW fun _ => ?_)
      refine WL.step rfl (OP.append (ds := [rowV (a4, cap4, V2.texts)]) rfl rfl rfl rfl rfl rfl rfl rfl rfl P1 (Ent.own MM) rfl (by omega) (by omega) rfl rfl (fun a' cap' => ?_))
      repeat (first | refine GD ?_ | refine NW fun _ => ?_)
      refine ⟨⟨k + 1, v, a', cap', rows ++ [(a4, cap4, V2.texts)], V2, D2, f, B + 2, sure⟩, ⟨by dsimp only; omega, I2, by dsimp only; omega, hr2.trans hring, ?_, by dsimp only; rw [List.length_append]; simp; omega, fun x hx => by
        rcases List.mem_append.1 hx with hx | hx
        · exact hr8s x hx
        · rw [List.mem_singleton.1 hx]; exact htl hrg2⟩, by dsimp only; omega, ⟨rfl, rfl, rfl, rfl, by dsimp only; rw [List.length_append]; rfl, rfl, rfl, rfl, trivial⟩, ?_⟩
      · dsimp only
        rw [show rowsT (rows ++ [(a4, cap4, V2.texts)]) = rowsT rows ++ [V2.texts] from List.map_append]
        exact H2
      · dsimp only
        rw [List.length_append, List.map_append]
        exact Imp.trans (M := [ownS a' (rows.length + 1) cap' 57 1 (rows.map rowV ++ [rowV (a4, cap4, V2.texts)]), rowsA rows, rowO (a4, cap4, V2.texts), vol v p V2, dsk p D2, A]) II (Imp.cons rowsA_snoc)
  by_cases k2 : kind = 2
  · subst k2
    have hwr := vmark_ok v p V D num hr0 I.len I.j.few
    unfold AppVP at hwr
    repeat (first | refine GD ?_ | refine NW fun _ => ?_)
    refine WL.step rfl (OP.call (pre := [vol v p V, dsk p D]) rfl rfl hwr PS rfl rfl ?_)
    intro x M hM
    cases hq : markV V D num with
    | error y =>
      rw [hq] at hM
      obtain ⟨ye, yc⟩ := y
      obtain ⟨e, E, ⟨ch, hch, he, rfl⟩, rfl, rfl⟩ := hM
      repeat (first | refine GD ?_ | refine NW fun _ => ?_)
      exact ⟨⟨k + 1, v, aS, cS, rows, V, D, f, B, sure⟩, ⟨by dsimp only; omega, I, by dsimp only; omega, hring, H, by dsimp only; omega, hr8s⟩, by dsimp only; omega, ⟨rfl, rfl, rfl, rfl, rfl, rfl, rfl, rfl, trivial⟩, II⟩
    | ok y =>
      obtain ⟨V2, D2⟩ := y
      rw [hq] at hM
      obtain ⟨rfl, rfl⟩ := hM
      obtain ⟨I2, hr2, ht2, hl2, _, hh2⟩ := vtexts_mark I hq
      have H2 := H.keep I2.blks hl2 ht2 hh2 I.j.fle
      repeat (first | refine GD ?_ | refine NW fun _ => ?_)
      exact ⟨⟨k + 1, v, aS, cS, rows, V2, D2, f, B + 2, sure⟩, ⟨by dsimp only; omega, I2, by dsimp only; omega, hr2.trans hring, H2, by dsimp only; omega, hr8s⟩, by dsimp only; omega, ⟨rfl, rfl, rfl, rfl, rfl, rfl, rfl, rfl, trivial⟩, II⟩
  by_cases k4 : kind = 4
  · subst k4
    repeat (first | refine GD ?_ | refine NW fun _ => ?_)
    refine WL.step rfl (OP.call (pre := [vol v p V, dsk p D]) rfl rfl (vflush_ok v p V D I.j.dok I.j.few) PS rfl rfl ?_)
    rintro _ _ ⟨rfl, rfl⟩
    have I2 := I.flush hBw
    have H2 := VHist.point (T := rowsT rows) I.blks H.pos H.last
    rw [rowsT_len] at H2
    repeat (first | refine GD ?_ | refine NW fun _ => ?_)
    exact ⟨⟨k + 1, v, aS, cS, rows, V, D.flush, V.J.held.length, B, rows.length - 1⟩, ⟨by dsimp only; omega, I2, by dsimp only; omega, hring, H2, by dsimp only; omega, hr8s⟩, by dsimp only; omega, ⟨rfl, rfl, rfl, rfl, rfl, by dsimp only; rw [← hs1]; rfl, rfl, rfl, trivial⟩, II⟩
  by_cases k5 : kind = 5
  · subst k5
    have hck := vcheck_ok v p V D num hr0 I.j.dok I.len (by have := I.j.wlen; have := I.j.len; have := I.j.ring; omega)
    unfold CkVP at hck
    repeat (first | refine GD ?_ | refine NW fun _ => ?_)
    refine WL.step rfl (OP.callRT rfl rfl (vblocks_rt v p V hr0) (Ent.at (up_vol _ _ _) MM) rfl rfl ?_)
    rintro _ _ ⟨aw, capw, rfl, rfl⟩
    rw [hrow8]
    repeat (first | refine GD ?_ | refine NW fun _ => ?_)
    refine WL.step rfl (OP.call (pre := [vol v p V, dsk p D]) rfl rfl hck PS rfl rfl ?_)
    intro x M hM
    cases hq : ckV V D num with
    | error y =>
      rw [hq] at hM
      obtain ⟨ye, yc⟩ := y
      obtain ⟨E, ⟨ch, hch, rfl, rfl⟩, rfl⟩ := hM
      cases ch with
      | nil =>
        refine absurd hch.symm ?_
        unfold ckV at hq
        split at hq
        · cases hq; exact fun h => nomatch h
        · split at hq
          · cases hq
          · cases hq; exact fun h => nomatch h
      | cons y1 ch =>
        dsimp only [valOf]
        repeat (first | refine GD ?_ | refine NW fun _ => ?_)
        refine WL.step rfl (OP.callRT rfl rfl (vblocks_rt v p V hr0) (Ent.at (up_vol _ _ _) MM) rfl rfl ?_)
        rintro _ _ ⟨a4, cap4, rfl, rfl⟩
        rw [htl hr0]
        repeat (first | refine GD ?_ | refine NW fun _ => ?_)
        refine WL.step rfl (OP.callRO rfl rfl (valike_ro a4 aw 8 cap4 capw V.texts V.texts (htl hr0).symm hrow8.symm (by decide)) (Ent.and (Ent.own (T := 9) MM) (Ent.own (T := 9) MM)) rfl rfl ?_)
        rw [decide_eq_true rfl]
        repeat (first | refine GD ?_ | refine NW fun _ => ?_)
        exact ⟨⟨k + 1, v, aS, cS, rows, V, D, f, B, sure⟩, ⟨by dsimp only; omega, I, by dsimp only; omega, hring, H, by dsimp only; omega, hr8s⟩, by dsimp only; omega, ⟨rfl, rfl, rfl, rfl, rfl, rfl, rfl, rfl, trivial⟩, II⟩
    | ok y =>
      obtain ⟨V2, D2⟩ := y
      rw [hq] at hM
      obtain ⟨rfl, rfl⟩ := hM
      obtain ⟨I2, ht2, hr2, _⟩ := I.ck hBw hq
      have hrg2 := I2.rng (by omega)
      have htx : V2.texts = V.texts := by unfold Vol.texts; rw [ht2]
      have H2 := VHist.point (T := rowsT rows) I2.blks H.pos (H.last.trans htx.symm)
      rw [rowsT_len] at H2
      repeat (first | refine GD ?_ | refine NW fun _ => ?_)
      refine WL.step rfl (OP.callRT rfl rfl (vblocks_rt v p V2 hrg2) (Ent.at (up_vol _ _ _) MM) rfl rfl ?_)
      rintro _ _ ⟨a4, cap4, rfl, rfl⟩
      rw [htl hrg2]
      repeat (first | refine GD ?_ | refine NW fun _ => ?_)
      refine WL.step rfl (OP.callRO rfl rfl (valike_ro a4 aw 8 cap4 capw V2.texts V.texts (htl hrg2).symm hrow8.symm (by decide)) (Ent.and (Ent.own (T := 9) MM) (Ent.own (T := 9) MM)) rfl rfl ?_)
      rw [decide_eq_true htx]
      repeat (first | refine GD ?_ | refine NW fun _ => ?_)
      exact ⟨⟨k + 1, v, aS, cS, rows, V2, D2, V2.J.held.length, B + 2, rows.length - 1⟩, ⟨by dsimp only; omega, I2, by dsimp only; omega, hr2.trans hring, H2, by dsimp only; omega, hr8s⟩, by dsimp only; omega, ⟨rfl, rfl, rfl, rfl, rfl, by dsimp only; rw [← hs1]; rfl, rfl, rfl, trivial⟩, II⟩
  by_cases k6 : kind = 6
  rotate_left
  · repeat (first | refine GD ?_ | refine NW fun _ => ?_)
    exact ⟨⟨k + 1, v, aS, cS, rows, V, D, f, B, sure⟩, ⟨by dsimp only; omega, I, by dsimp only; omega, hring, H, by dsimp only; omega, hr8s⟩, by dsimp only; omega, ⟨rfl, rfl, rfl, rfl, rfl, rfl, rfl, rfl, trivial⟩, II⟩
  subst k6
  obtain ⟨q, V3, D3, q1, q2, ho2, I2, hr2, hl2, hh2⟩ := I.crash hBw (keeps keep)
  rw [hring] at ho2
  have e3 := hr2.trans hring
  have hrg3 := I2.rng (by omega)
  have hq3 : V3.J.held.length = q := by rw [hh2, List.length_take]; omega
  obtain ⟨i0, i1, i2, i3⟩ := H.pre q q1 q2
  rw [rowsT_len] at i2
  rw [rowsT_get i2] at i3
  have ht3 : preT V q = V3.texts := by
    have := preT_all (V := V3) I2.blks
    rw [← this]
    unfold preT
    rw [hl2, hq3, hh2, List.take_take, Nat.min_self]
  rw [ht3] at i3
  have hD2 : (D.crash keep).ok := Dsk.settle_ok I.j.dok _
  have hop := vopen_ok p (D.crash keep) N hD2 (by show (0 : Nat) < 10000; decide) (by omega)
  unfold OpenVP at hop
  rw [show openV (D.crash keep) N = _ from ho2] at hop
  have hcr := dcrash_ok p D keep hok I.j.dok (by have := I.j.few; omega)
  generalize D.crash keep = DC at *
  repeat (first | refine GD ?_ | refine NW fun _ => ?_)
  refine WL.step rfl (OP.call (pre := [dsk p D]) rfl rfl hcr PS rfl rfl ?_)
  rintro _ _ ⟨rfl, rfl⟩
  repeat (first | refine GD ?_ | refine NW fun _ => ?_)
  refine WL.step rfl (OP.call (pre := [dsk p DC]) rfl rfl hop PS rfl rfl ?_)
  rintro x M ⟨v3, rfl, rfl⟩
  repeat (first | refine GD ?_ | refine NW fun _ => ?_)
  refine WL.step rfl (OP.callRT rfl rfl (vblocks_rt v3 p V3 hrg3) (Ent.at (up_vol _ _ _) MM) rfl rfl ?_)
  rintro _ _ ⟨a4, cap4, rfl, rfl⟩
  rw [htl hrg3]
  repeat (first | refine GD ?_ | refine NW fun _ => ?_)
  refine WC.loop (σ := Nat) (fun t => i0 ≤ t ∧ t < rows.length)
    (fun t => [(1, .val (.slice (some ⟨b, off, none⟩) n c)), (5, .val (.int .i64 N)), (6, .val (.pointer (some ⟨p, 0, none⟩))), (7, .val (.pointer (some ⟨v3, 0, none⟩))), (9, .val (.slice aS rows.length cS)), (10, .val (.int .i64 sure)), (45, .val (.int .i64 n)), (46, .val (.int .i64 k)), (16, .val (.slice a4 8 cap4)), (17, .val (.int .i64 t))])
    (fun _ => [ownS aS rows.length cS 57 1 (rows.map rowV), rowsA rows, ownS a4 8 cap4 9 1 (V3.texts.flatMap strC), vol v3 p V3, dsk p D3, A]) (fun t => t) (rows.length - 1) ⟨by omega, by omega⟩ ⟨rfl, rfl, rfl, rfl, rfl, rfl, rfl, rfl, rfl, by rw [← hs1]; rfl, trivial⟩ II ?_
  rintro t ⟨ht1, ht2⟩
  refine WC.fact (Ent.some (Ent.own (a := aS) (n := rows.length) (cap := cS) (T := 57) (size := 1) (cs := rows.map rowV) MM) (by omega)) ?_
  rintro ⟨bS, oS, hS⟩
  rw [hS]
  have hcap : rows.length ≤ 100 := by omega
  have hrg := rowsV_get (l := rows) ht2
  have h8t := hr8s _ (List.getElem_mem ht2)
  repeat (first | refine GD ?_ | refine NW fun _ => ?_)
  refine WL.guardT rfl rfl rfl rfl (OP.load1 (v := rowV rows[t]) rfl rfl rfl rfl (Ent.elem (Ent.own (T := 57) MM) rfl hrg) rfl rfl ?_)
  repeat (first | refine GD ?_ | refine NW fun _ => ?_)
  refine WL.guardT rfl rfl rfl rfl (OP.callRO rfl rfl (valike_ro (rows[t]).1 a4 8 (rows[t]).2.1 cap4 (rows[t]).2.2 V3.texts h8t.symm (htl hrg3).symm (by decide)) (Ent.and (rowsA_get MM ht2) (Ent.own (T := 9) MM)) rfl rfl ?_)
  by_cases he : (rows[t]).2.2 = V3.texts
  rotate_left
  · have hne : i0 ≠ t := fun h => by subst h; exact he i3
    rw [decide_eq_false he]
    have ht3 : (t : Int) - 1 = ((t - 1 : Nat) : Int) := by omega
    repeat (first | refine GD ?_ | refine NW fun _ => ?_)
    exact ⟨t - 1, ⟨by omega, by omega⟩, by omega, ⟨rfl, rfl, rfl, rfl, rfl, rfl, rfl, rfl, rfl, by rw [← ht3]; rfl, trivial⟩, II⟩
  rw [decide_eq_true he]
  refine WL.fact (Ent.ownLe (a := some ⟨bS, oS, none⟩) (n := rows.length) (cap := cS) (T := 57) (size := 1) (cs := rows.map rowV) MM) (fun hcl => ?_)
  have htl1 : (rows.take (t + 1)).length = t + 1 := by rw [List.length_take]; omega
  have hH2 : VHist V3 q (rowsT (rows.take (t + 1))) t := by
    have := VHist.point (V := V3) (T := rowsT (rows.take (t + 1))) I2.blks (by rw [rowsT_len]; omega) (by rw [rowsT_len, rowsT_get (by omega)]; simp only [htl1, Nat.add_sub_cancel, List.getElem_take]; exact he)
    rw [hq3, rowsT_len, htl1, Nat.add_sub_cancel] at this
    exact this
  repeat (first | refine GD ?_ | refine NW fun _ => ?_)
  refine ⟨⟨k + 1, v3, some ⟨bS, oS, none⟩, cS, rows.take (t + 1), V3, D3, q, B + 2, t⟩, ⟨by dsimp only; omega, I2, by dsimp only; omega, e3, hH2, by dsimp only; omega, fun x hx => hr8s x (List.mem_of_mem_take hx)⟩, by dsimp only; omega, ⟨rfl, rfl, rfl, rfl, by dsimp only; rw [htl1]; rfl, rfl, rfl, rfl, trivial⟩, ?_⟩
  dsimp only
  rw [htl1]
  have hmt : (rows.take (t + 1)).map rowV = (rows.map rowV).take ((t + 1) * 1) := by rw [Nat.mul_one, List.map_take]
  rw [hmt]
  exact Imp.trans (Imp.ownTake (by omega)) (Imp.cons (Imp.trans rowsA_take (Imp.cons II)))
end Go.Proofs.Yteednjcoapmkaaa
namespace Go.Proofs.Yteednjcoapmkaaa
open Go Go.GL Go.ChangeShapes Go.WideShapes Go.ChangeAt Go.RowKit
open Go.ChangeMaps (open_string shut_string)
set_option linter.unusedVariables false

theorem ownVolumePrefix : ownKnob Try.prog.godebug = none := by kernel_rfl
theorem laidOutVolumePrefix : laidOutB Try.prog = true := by kernel_rfl
set_option maxRecDepth 100000 in
theorem liftedVolumePrefix (os : Os) (started : os.Started) (H : Type) (enc : TypeId × Value → H) :
    ReturnsInHanded {} Try.checked os 8 .any (Rows.volumePrefixSpec.pre6 enc Try.prog Try.f8 Rows.volumePrefixRow.domain false) (Rows.volumePrefixSpec.post enc Try.prog Try.f8 false true false false) := by
  refine returnsInHanded_of_change (C := Try.checked) ownVolumePrefix started (by kernel_rfl) Try.func8
    (ChangeSpec.witness6 (enc := enc) (C := Try.checked) false ⟨#[], #[.int .u8 0, .slice none 0 0], []⟩ 8 (by kernel_rfl) (by kernel_rfl) (by kernel_rfl) (by kernel_rfl)) ?_
  intro W base args ds gs before hval0 hW hcnd _
  have hval : ∀ (j : Nat) t v, Try.f8.params[j]? = some t → args[j]? = some v → Value.okWide Try.prog W .any base t v := hval0
  have hW' := hW
  obtain ⟨p, q, hA0, hV, rfl, hfz, hnd⟩ := hW
  have hA : DataW.TrodAll enc Try.prog W 0 (fun _ => true) true Try.f8.params.toList args.toList ds p := hA0
  rw [Try.params8] at hA hval
  obtain ⟨v0, vs0, d0, ds0, p0, q0, hargs, rfl, rfl, h0, r0⟩ := trodAll_cons hA
  obtain ⟨v1, vs1, d1, ds1, p1, q1, rfl, rfl, rfl, h1, r1⟩ := trodAll_cons r0
  obtain ⟨rfl, rfl, rfl⟩ := trodAll_nil r1
  obtain rfl : args = #[v0, v1] := by cases args; simp_all
  obtain ⟨rfl, rfl⟩ := trodVars_none hV
  have k0 := h0
  obtain ⟨z0, rfl, _, _, w0⟩ := open_int Try.underlying5 (hval 0 5 v0 rfl rfl) h0
  obtain ⟨a0, rfl⟩ := byte_of w0
  have k1 := h1
  obtain ⟨a1, len1, cap1, rw1, rfl, hr1, hc1, hm1, ho1, R1⟩ := open_row (n := 8) (l := [.int .i64, .int .i64, .str, .int .u64]) Try.underlying51 (by kernel_rfl) (by kernel_rfl) (hval 1 51 v1 rfl rfl) h1
  obtain ⟨l1, hl1, hn1, w1⟩ := rows_enc (fun x hx => vop_of (ho1 x hx))
  rw [hl1] at R1
  rw [hr1] at hn1
  clear hA0 hval0
  refine ((vprefix_ro a0 a1 len1 cap1 l1 hn1.symm (fun o ho => by have := wf_u64 (w1 o ho).2.2; omega)).calls W R1).mono fun e W' ⟨he, ext⟩ => ?_
  subst he
  exact ⟨_, rfl, _, _, _, [], _, [], hW', trodAll_mk1 (shut_bool Try.underlying4 _), (trodAll_cons_mk (GL.Ext.trod laidOutVolumePrefix (by kernel_rfl) (of_decide_eq_true (by kernel_rfl)) k0 ext) (trodAll_cons_mk (GL.Ext.trod laidOutVolumePrefix (by kernel_rfl) (of_decide_eq_true (by kernel_rfl)) k1 ext) trodAll_mk0)), rfl, ext.keptBut _, fun h => by cases h⟩
theorem overVolumePrefix : Rows.volumePrefixRow.holds Try.pinned (OpenSpec.ofChange Rows.volumePrefixSpec) :=
  OpenClaim.holds_of_wide 8 Try.f8 rfl rfl rfl rfl rfl rfl rfl ⟨rfl, rfl, rfl, rfl, rfl⟩ rfl rfl rfl rfl rfl (by kernel_rfl) Try.func8 (by kernel_rfl)
    (of_decide_eq_true (by kernel_rfl)) (by unfold Func.isWrapper; first | (rw [if_pos (by decide +kernel)]; kernel_rfl) | (rw [if_neg (by decide +kernel)]; exact ⟨rfl, rfl⟩))
    (fun os started H enc _ => liftedVolumePrefix os started H enc)
theorem volumePrefix_holds : Rows.VolumePrefixSaid := overVolumePrefix
end Go.Proofs.Yteednjcoapmkaaa
