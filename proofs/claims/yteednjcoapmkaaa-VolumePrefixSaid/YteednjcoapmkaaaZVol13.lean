/- Contracts of functions of the given program, and plain laws: parts of the proofs of laws. -/
import Derived.Test.YteednjcoapmkaaaZVol7
import Derived.Test.YteednjcoapmkaaaZVol11
import Derived.Test.YteednjcoapmkaaaZVol12
/- Contracts of functions of the given program, and plain laws on what they compute: parts of the proofs of laws. -/

namespace Go.Proofs.Yteednjcoapmkaaa
open Go Go.GL

/-! the disk -/
def secC (s : List UInt8) : List Value := s.map byteV
def looC (x : Nat × List UInt8) : List Value := .int .i64 x.1 :: x.2.map byteV
def dskL (p : Nat) (D : Dsk) (x : Option Addr × Nat × Option Addr × Nat) : List Assn :=
  [blk p [.slice x.1 D.S.length x.2.1, .slice x.2.2.1 D.W.length x.2.2.2] 78,
   ownS x.1 D.S.length x.2.1 118 64 (D.S.flatMap secC),
   ownS x.2.2.1 D.W.length x.2.2.2 120 65 (D.W.flatMap looC)]
def dsk (p : Nat) (D : Dsk) : Assn := exA (dskL p D)
theorem up_dsk (p : Nat) (D : Dsk) : Up (dsk p D) := up_exA _
theorem repL_sec (n : Nat) : repL (List.replicate 64 (.int .u8 0)) n = (List.replicate n zero64).flatMap secC := by
  induction n with
  | zero => rfl
  | succ n ih => rw [repL, ih, List.replicate_succ (a := zero64), List.flatMap_cons]; rfl
theorem secC_len {D : Dsk} (h : D.ok) : ∀ s ∈ D.S, (secC s).length = 64 := fun s hs => by unfold secC; rw [List.length_map, h.s64 s hs]
theorem looC_len {D : Dsk} (h : D.ok) : ∀ x ∈ D.W, (looC x).length = 65 := fun x hx => by unfold looC; rw [List.length_cons, List.length_map, (h.w64 x hx).2]
set_option maxRecDepth 10000 in
theorem dnew_rt (n : Int) : RT G 12 [.int .i64 n] (fun _ => True) (fun v E => ∃ p, v = .pointer (some ⟨p, 0, none⟩) ∧ E = [dsk p (Dsk.new n)]) := by
  refine RT.enter Try.func12 rfl (by decide) rfl Try.ntmps12 rfl (fun A hu hA => ?_)
  repeat (first | refine GO ?_ | refine NW fun _ => ?_)
  have e : (if 0 < (if 1024 < n then 1024 else n) then (if 1024 < n then 1024 else n) else 0) = max 0 (min n 1024) := by split <;> split <;> omega
  rw [e]
  have hb : 0 ≤ max 0 (min n 1024) ∧ max 0 (min n 1024) ≤ 1024 := by omega
  have hd : Dsk.new n = ⟨List.replicate (max 0 (min n 1024)).toNat zero64, []⟩ := rfl
  rw [hd]
  generalize max 0 (min n 1024) = m at *
  refine WL.step rfl (OP.makeS (z := List.replicate 64 (.int .u8 0)) rfl rfl rfl rfl rfl rfl rfl rfl hb.1 (by omega) (by omega) rfl rfl (fun b => ?_))
  rw [repL_sec m.toNat]
  repeat (first | refine GO ?_ | refine NW fun _ => ?_)
  rename_i p
  refine ret1 rfl ⟨_, ⟨p, rfl, rfl⟩, (Imp.nilS 120 65).trans <| Imp.foldP (some ⟨b, 0, none⟩, m.toNat, none, 0) (by dsimp only [dskL]; rw [List.length_replicate]; exact (by repeat (first | exact Picks.nil _ | apply Picks.cons | exact Pick.here _ _ | apply Pick.there))) (Imp.refl _)⟩
theorem dlen_ro (p : Nat) (D : Dsk) : RO G 33 [.pointer (some ⟨p, 0, none⟩)] (dsk p D) (.int .i64 D.S.length) := by
  refine RO.enterEx Try.func33 rfl (by decide) rfl Try.ntmps33 rfl (fun x A hu hA => ?_)
  have hE : ∀ {L}, A ∈ L → Ent L (cellsAt p 0 [.slice x.1 D.S.length x.2.1, .slice x.2.2.1 D.W.length x.2.2.2]) := fun m => Ent.of hu hA m (Ent.whole (List.Mem.head _))
  repeat (first | refine GD ?_ | refine NW fun _ => ?_)
  refine WL.step rfl (OP.load1 (v := .slice x.1 D.S.length x.2.1) rfl rfl rfl rfl (Ent.one (i := 0) (hE MM) rfl) rfl rfl ?_)
  repeat (first | refine GD ?_ | refine NW fun _ => ?_)
  exact ret1 rfl ⟨rfl, MM⟩
theorem in_case (i : Int) (n : Nat) : (0 ≤ i ∧ i < n) ∨ ¬ (0 ≤ i ∧ i < n) := Classical.em _
def diskT : ByteArray := ⟨#[100, 105, 115, 107]⟩
set_option maxRecDepth 10000 in
theorem dthere_rt (p : Nat) (D : Dsk) (i : Int) : RT G 65 [.pointer (some ⟨p, 0, none⟩), .int .i64 i] (dsk p D) (IsEr (if 0 ≤ i ∧ i < D.S.length then none else some ([(diskT, i)], 5))) := by
  refine RT.enter Try.func65 rfl (by decide) rfl Try.ntmps65 rfl (fun A hu hA => ?_)
  have hE : ∀ {L}, A ∈ L → Ent L (dsk p D) := fun m => Ent.mem m hu hA
  by_cases h0 : i < 0
  · rw [if_neg (by omega)]
    repeat (first | refine GD ?_ | refine NW fun _ => ?_)
    refine WL.step rfl (OP.call (pre := []) rfl rfl (wrap_ok diskT i 5 (by decide)) PS rfl rfl ?_)
    intro v M hF
    obtain ⟨M', h1, h2⟩ := hF.isEr
    repeat (first | refine GD ?_ | refine NW fun _ => ?_)
    exact ret1 rfl ⟨M', h1, Imp.app h2 _⟩
  repeat (first | refine GD ?_ | refine NW fun _ => ?_)
  refine WL.guardT rfl rfl rfl rfl (OP.callRO rfl rfl (dlen_ro p D) (hE MM) rfl rfl ?_)
  by_cases h1 : i < D.S.length
  · rw [if_pos (by omega)]
    repeat (first | refine GD ?_ | refine NW fun _ => ?_)
    exact ret1 rfl ⟨[], ⟨rfl, rfl⟩, Imp.refl _⟩
  · rw [if_neg (by omega)]
    repeat (first | refine GD ?_ | refine NW fun _ => ?_)
    refine WL.step rfl (OP.call (pre := []) rfl rfl (wrap_ok diskT i 5 (by decide)) PS rfl rfl ?_)
    intro v M hF
    obtain ⟨M', h1, h2⟩ := hF.isEr
    repeat (first | refine GD ?_ | refine NW fun _ => ?_)
    exact ret1 rfl ⟨M', h1, Imp.app h2 _⟩
/-- Write: the answer, the memory -/
def WrPost (p : Nat) (D : Dsk) (i : Int) (l : List UInt8) (v : Value) (M : List Assn) : Prop :=
  if (0 ≤ i ∧ i < D.S.length) ∧ l.length = 64 then v = .nilIface ∧ M = [dsk p (D.put i.toNat l)]
  else ∃ E, IsEr (some ([(diskT, i)], if 0 ≤ i ∧ i < D.S.length then 1 else 5)) v E ∧ M = E ++ [dsk p D]
theorem min_lt {a b : Nat} (h : a < b) : min a b = a := by omega
set_option maxHeartbeats 1000000 in
set_option maxRecDepth 10000 in
theorem dwrite_ok (p : Nat) (D : Dsk) (i : Int) (l : List UInt8) (a : Option Addr) (cap : Nat) (hw : D.W.length < 1000000) (hl : l.length < 1000000) :
    Triple G 39 [.pointer (some ⟨p, 0, none⟩), .int .i64 i, .slice a l.length cap] [dsk p D, ownS a l.length cap 5 1 (l.map byteV)] (WrPost p D i l) := by
  refine Triple.enter Try.func39 rfl (by decide) rfl Try.ntmps39 rfl (fun F => ?_)
  repeat (first | refine GO ?_ | refine NW fun _ => ?_)
  refine WL.step rfl (OP.callRT rfl rfl (dthere_rt p D i) (Ent.at (up_dsk p D) MM) rfl rfl ?_)
  by_cases hi : 0 ≤ i ∧ i < D.S.length
  rotate_left
  · rw [if_neg hi]
    rintro _ _ ⟨ch, h1, rfl, rfl⟩
    cases ch with
    | nil => cases h1
    | cons x r =>
      dsimp only [valOf]
      repeat (first | refine GD ?_ | refine NW fun _ => ?_)
      refine ret1 rfl ⟨[chainR (x :: r) 5, dsk p D], ?_, II⟩
      unfold WrPost
      rw [if_neg (fun h => hi h.1), if_neg hi]
      exact ⟨_, ⟨x :: r, h1, rfl, rfl⟩, rfl⟩
  rw [if_pos hi]
  rintro _ _ ⟨rfl, rfl⟩
  repeat (first | refine GO ?_ | refine NW fun _ => ?_)
  rename_i x
  have hcells : ∃ w, w.length = min l.length 64 ∧ ((l.map byteV).take (min l.length 64 * 1)) = w := ⟨_, by simp, rfl⟩
  obtain ⟨w, hwl, hw1⟩ := hcells
  have hone : allOne w = true := by rw [← hw1, ← List.map_take]; exact allOne_bytes _
  refine WL.imp (M := [blk x (.int .i64 i :: List.replicate 64 (.int .u8 0)) 120, dsk p D, ownS a l.length cap 5 1 (l.map byteV), F]) (Imp.refl _) ?_
  refine WL.step rfl (OP.copyB (M := [blk x (.int .i64 i :: (w ++ List.replicate (64 - w.length) (.int .u8 0))) 120, dsk p D, ownS a l.length cap 5 1 (l.map byteV), F]) rfl rfl rfl rfl rfl rfl rfl (Ent.own MM) hw1 hone (UpdM.here ?_) rfl rfl ?_)
  · have h := setMany_mid w [.int .i64 i] (List.replicate w.length (.int .u8 0)) (List.replicate (64 - w.length) (.int .u8 0)) (by simp)
    rw [List.append_assoc, List.replicate_append_replicate, show w.length + (64 - w.length) = 64 by omega] at h
    simpa using h
  by_cases hm : 64 < l.length
  · rw [show min l.length 64 = 64 by omega]
    have h64 : ¬ l.length = 64 := by omega
    repeat (first | refine GD ?_ | refine NW fun _ => ?_)
    refine WL.step rfl (OP.call (pre := []) rfl rfl (wrap_ok diskT i 1 (by decide)) PS rfl rfl ?_)
    intro v M hF
    obtain ⟨M', h1, h2⟩ := hF.isEr
    repeat (first | refine GD ?_ | refine NW fun _ => ?_)
    refine ret1 rfl ⟨M' ++ [dsk p D], ?_, ?_⟩
    · unfold WrPost
      rw [if_neg (fun h => h64 h.2), if_pos hi]
      exact ⟨M', h1, rfl⟩
    · rw [List.append_assoc]
      exact (Imp.app h2 _).trans (Imp.appL II _)
  rw [show min l.length 64 = l.length by omega]
  by_cases h64 : l.length = 64
  rotate_left
  · repeat (first | refine GD ?_ | refine NW fun _ => ?_)
    refine WL.step rfl (OP.call (pre := []) rfl rfl (wrap_ok diskT i 1 (by decide)) PS rfl rfl ?_)
    intro v M hF
    obtain ⟨M', h1, h2⟩ := hF.isEr
    repeat (first | refine GD ?_ | refine NW fun _ => ?_)
    refine ret1 rfl ⟨M' ++ [dsk p D], ?_, ?_⟩
    · unfold WrPost
      rw [if_neg (fun h => h64 h.2), if_pos hi]
      exact ⟨M', h1, rfl⟩
    · rw [List.append_assoc]
      exact (Imp.app h2 _).trans (Imp.appL II _)
  have hwb : w = l.map byteV := by rw [← hw1, List.take_of_length_le]; simp; omega
  subst hwb
  rw [show List.replicate (64 - (l.map byteV).length) (Value.int .u8 0) = [] by rw [List.length_map, h64]; rfl, List.append_nil]
  have hii : (i.toNat : Int) = i := by omega
  have hlo : Value.int .i64 i :: l.map byteV = looC (i.toNat, l) := by unfold looC; rw [hii]
  rw [hlo]
  have hlen : (looC (i.toNat, l)).length = 65 := by rw [← hlo]; simp [h64]
  repeat (first | refine GD ?_ | refine NW fun _ => ?_)
  refine WC.open P1 (fun y => ?_)
  refine WC.imp (M := dskL p D y ++ [blk x (looC (i.toNat, l)) 120, F]) II ?_
  unfold dskL
  dsimp only [List.cons_append, List.nil_append]
  refine RD 7 11 (_) ?_
  refine WP 0 ?_
  refine WP 1 ?_
  refine WP 2 ?_
  refine WP 3 ?_
  refine VV 4 ?_
  refine VL 5 (.agg (looC (i.toNat, l)).toArray) rfl rfl rfl rfl (.inr ⟨rfl, looC (i.toNat, l), rfl, hlen, Ent.whole MM⟩) ?_
  refine WH.only 6 rfl rfl (by kernel_rfl) rfl (OP.sliceLit rfl rfl rfl rfl rfl (evLit1 rfl rfl hlen rfl rfl rfl) rfl rfl (fun b2 => ⟨fun _ => II, ?_⟩))
  refine WH.only 7 rfl rfl (by kernel_rfl) rfl (OP.append rfl rfl rfl rfl rfl rfl rfl rfl rfl P1 (Ent.own MM) (by rw [← hlo]; exact allOne_bytes l) (by omega) (by omega) rfl rfl (fun a' cap' => ⟨(fun h => nomatch h), ?_⟩))
  refine WP 8 ?_
  refine WP 9 ?_
  refine WH.only 10 rfl rfl (by kernel_rfl) rfl (OP.store rfl rfl rfl rfl rfl rfl rfl UP rfl ⟨(fun h => nomatch h), ?_⟩)
  refine DN ?_
  repeat (first | refine GD ?_ | refine NW fun _ => ?_)
  refine ret1 rfl ⟨[dsk p (D.put i.toNat l)], ?_, ?_⟩
  · unfold WrPost
    rw [if_pos ⟨hi, h64⟩]
    exact ⟨rfl, rfl⟩
  · refine Imp.foldP (N := [ownS (some ⟨b2, 0, none⟩) 1 1 120 65 (looC (i.toNat, l)), blk x (looC (i.toNat, l)) 120, F]) (y.1, y.2.1, a', cap') ?_ II
    unfold dskL Dsk.put
    dsimp only
    rw [List.length_append, List.flatMap_append, List.flatMap_cons, List.flatMap_nil, List.append_nil]
    exact (by repeat (first | exact Picks.nil _ | apply Picks.cons | exact Pick.here _ _ | apply Pick.there))
theorem Imp.blkR {b n : Nat} {c : List Value} {T : TypeId} {L : List Assn} (h : c.length = n) : Imp (blk b c T :: L) (readS (some ⟨b, 0, none⟩) n 1 c :: L) :=
  fun _ s => stars_head_mono (fun _ ⟨fr, hb, _⟩ => ⟨by omega, .inr ⟨b, 0, rfl, _, T, fr, hb, fun i v hi => by simpa using hi⟩⟩) s
theorem cut_all {L : List Assn} {b : Nat} {x : Value} {l : List Value} {T : TypeId} {n : Nat} (m : blk b (x :: l) T ∈ L) (h : l.length = n) : HasCut L b 1 n l := by
  have e : cutL (x :: l) 1 n = some l := cutL_all h
  induction L with
  | nil => cases m
  | cons A L ih => rcases List.mem_cons.1 m with h1 | h1
                   · subst h1; exact HasCut.here e
                   · exact HasCut.there (ih h1)
theorem Dsk.cur_def (D : Dsk) (i : Nat) : D.cur i = curF i (D.S.getD i []) D.W := rfl
/-- Read: the answer, what is new -/
def DReadPost (D : Dsk) (i : Int) (v : Value) (E : List Assn) : Prop :=
  if 0 ≤ i ∧ i < D.S.length then ∃ b, v = .tuple #[.slice (some ⟨b, 0, none⟩) 64 64, .nilIface] ∧ E = [readS (some ⟨b, 0, none⟩) 64 1 ((D.cur i.toNat).map byteV)]
  else ∃ e, IsEr (some ([(diskT, i)], 5)) e E ∧ v = .tuple #[.slice none 0 0, e]
theorem allOne_loo (x : Nat × List UInt8) : allOne (looC x) = true := allOne_bytes x.2
set_option maxHeartbeats 1000000 in
set_option maxRecDepth 10000 in
theorem dread_rt (p : Nat) (D : Dsk) (i : Int) (hD : D.ok) (hw : D.W.length < 1000000) : RT G 47 [.pointer (some ⟨p, 0, none⟩), .int .i64 i] (dsk p D) (DReadPost D i) := by
  refine RT.enterEx Try.func47 rfl (by decide) rfl Try.ntmps47 rfl (fun y A hu hA => ?_)
  have hE : ∀ {L}, A ∈ L → Ent L (dsk p D) := fun m => Ent.mem m hu fun k a => ⟨y, hA k a⟩
  have hF : ∀ {L}, A ∈ L → Ent L (cellsAt p 0 [.slice y.1 D.S.length y.2.1, .slice y.2.2.1 D.W.length y.2.2.2]) := fun m => Ent.of hu hA m (Ent.whole (List.Mem.head _))
  have hS : ∀ {L}, A ∈ L → Ent L (readS y.1 D.S.length 64 (D.S.flatMap secC)) := fun m => Ent.of hu hA m (Ent.own (List.Mem.tail _ (List.Mem.head _)))
  have hW : ∀ {L}, A ∈ L → Ent L (readS y.2.2.1 D.W.length 65 (D.W.flatMap looC)) := fun m => Ent.of hu hA m (Ent.own (List.Mem.tail _ (List.Mem.tail _ (List.Mem.head _))))
  repeat (first | refine GO ?_ | refine NW fun _ => ?_)
  refine WL.step rfl (OP.callRT rfl rfl (dthere_rt p D i) (hE MM) rfl rfl ?_)
  by_cases hi : 0 ≤ i ∧ i < D.S.length
  rotate_left
  · rw [if_neg hi]
    rintro _ _ ⟨ch, h1, rfl, rfl⟩
    cases ch with
    | nil => cases h1
    | cons x r =>
      dsimp only [valOf]
      repeat (first | refine GD ?_ | refine NW fun _ => ?_)
      refine ret2 rfl rfl ⟨[chainR (x :: r) 5], ?_, II⟩
      unfold DReadPost
      rw [if_neg hi]
      exact ⟨_, ⟨x :: r, h1, rfl, rfl⟩, rfl⟩
  rw [if_pos hi]
  rintro _ _ ⟨rfl, rfl⟩
  obtain ⟨k, rfl⟩ : ∃ k : Nat, i = k := ⟨i.toNat, by omega⟩
  have hk : k < D.S.length := by omega
  have hs64 := hD.s64 D.S[k] (List.getElem_mem hk)
  repeat (first | refine GD ?_ | refine NW fun _ => ?_)
  refine WL.step rfl (OP.load1 (v := .slice y.1 D.S.length y.2.1) rfl rfl rfl rfl (Ent.one (i := 0) (hF MM) rfl) rfl rfl ?_)
  refine WL.fact (Ent.some (hS MM) (by omega)) ?_
  rintro ⟨bs, off, hys⟩
  rw [hys]
  rw [hys] at hS
  repeat (first | refine GD ?_ | refine NW fun _ => ?_)
  refine WL.step rfl (OP.loadA (l := secC D.S[k]) rfl rfl rfl rfl ((Ent.elMA (secC_len hD) (hS MM) hk)) (secC_len hD _ (List.getElem_mem hk)) rfl rfl ?_)
  repeat (first | refine GD ?_ | refine NW fun _ => ?_)
  rename_i x
  refine WL.step rfl (OP.store (vs := secC D.S[k]) (M := [blk x (secC D.S[k]) 118, A]) rfl rfl rfl rfl rfl (allOne_bytes _) (secC_len hD _ (List.getElem_mem hk)) (UpdM.here (setMany_all (by rw [secC_len hD _ (List.getElem_mem hk)]; rfl))) rfl ?_)
  repeat (first | refine GO ?_ | refine NW fun _ => ?_)
  refine WL.step rfl (OP.load1 (v := .slice y.2.2.1 D.W.length y.2.2.2) rfl rfl rfl rfl (Ent.one (i := 1) (hF MM) rfl) rfl rfl ?_)
  repeat (first | refine GO ?_ | refine NW fun _ => ?_)
  have hcu : ∀ j, (secC (curF k D.S[k] (D.W.take j))).length = 64 := fun j => by
    unfold secC; rw [List.length_map]; exact curF_64 hs64 (fun x hx => (hD.w64 x (List.mem_of_mem_take hx)).2)
  refine WC.loop (σ := Nat) (fun j => j ≤ D.W.length)
    (fun j => [(0, .val (.pointer (some ⟨p, 0, none⟩))), (1, .val (.int .i64 k)), (7, .val (.pointer (some ⟨x, 0, none⟩))), (26, .val (.slice y.2.2.1 D.W.length y.2.2.2)), (27, .val (.int .i64 D.W.length)), (28, .val (.int .i64 j))])
    (fun j => [blk x (secC (curF k D.S[k] (D.W.take j))) 118, A]) (fun j => D.W.length - j) 0 (Nat.zero_le _) ⟨rfl, rfl, rfl, rfl, rfl, rfl, trivial⟩ (Imp.refl _) ?_
  rintro j hj
  by_cases hlt : j < D.W.length
  rotate_left
  · have hje : j = D.W.length := by omega
    subst hje
    have hcl := hcu D.W.length
    rw [List.take_length] at *
    have hcur : D.cur k = curF k D.S[k] D.W := by rw [Dsk.cur_def, List.getD_eq_getElem?_getD, List.getElem?_eq_getElem hk]; rfl
    repeat (first | refine GD ?_ | refine NW fun _ => ?_)
    refine ret2 rfl rfl ⟨[readS (some ⟨x, 0, none⟩) 64 1 ((D.cur k).map byteV)], ?_, ?_⟩
    · unfold DReadPost
      rw [if_pos hi]
      exact ⟨x, rfl, rfl⟩
    · rw [hcur]
      exact Imp.blkR hcl
  have hsn : curF k D.S[k] (D.W.take (j + 1)) = if (D.W[j]).1 = k then (D.W[j]).2 else curF k D.S[k] (D.W.take j) := by
    rw [← List.take_append_getElem hlt, curF_snoc]
  have hxl := looC_len hD _ (List.getElem_mem hlt)
  obtain ⟨hx1, hx2⟩ := hD.w64 _ (List.getElem_mem hlt)
  refine WC.fact (Ent.some (hW MM) (by omega)) ?_
  rintro ⟨bw, offw, hyw⟩
  rw [hyw]
  rw [hyw] at hW
  repeat (first | refine GD ?_ | refine NW fun _ => ?_)
  refine WL.step rfl (OP.loadA (l := looC D.W[j]) rfl rfl rfl rfl ((Ent.elMA (looC_len hD) (hW MM) hlt)) hxl rfl rfl ?_)
  generalize D.W[j] = e at *
  obtain ⟨ei, eb⟩ := e
  dsimp only at hsn hx1 hx2
  repeat (first | refine GD ?_ | refine NW fun _ => ?_)
  rename_i x9
  refine WL.step rfl (OP.store (vs := looC (ei, eb)) (M := [blk x9 (looC (ei, eb)) 120, blk x (secC (curF k D.S[k] (D.W.take j))) 118, A]) rfl rfl rfl rfl rfl (allOne_loo _) hxl (UpdM.here (setMany_all (by rw [hxl]; rfl))) rfl ?_)
  by_cases hek : ei = k
  · rw [if_pos hek] at hsn
    subst hek
    repeat (first | refine GD ?_ | refine NW fun _ => ?_)
    refine WL.step rfl (OP.loadA (l := secC eb) rfl rfl rfl rfl (cut_all (n := 64) (x := .int .i64 ei) (T := 120) MM (by simp [secC, hx2])).ent.1 (by simp [secC, hx2]) rfl rfl ?_)
    refine WL.step rfl (OP.store (vs := secC eb) (M := [blk x9 (looC (ei, eb)) 120, blk x (secC eb) 118, A]) rfl rfl rfl rfl rfl (allOne_bytes _) (by simp [secC, hx2]) (UpdM.there (UpdM.here (setMany_all (by rw [hcu]; simp [secC, hx2])))) rfl ?_)
    repeat (first | refine GD ?_ | refine NW fun _ => ?_)
    exact ⟨j + 1, by omega, by omega, ⟨rfl, rfl, rfl, rfl, rfl, rfl, trivial⟩, by rw [hsn]; exact II⟩
  · rw [if_neg hek] at hsn
    have hne : ¬ (ei : Int) = k := by omega
    repeat (first | refine GD ?_ | refine NW fun _ => ?_)
    exact ⟨j + 1, by omega, by omega, ⟨rfl, rfl, rfl, rfl, rfl, rfl, trivial⟩, by rw [hsn]; exact II⟩
theorem settleF_succ (kept : Nat → Bool) (W : List (Nat × List UInt8)) (S : List (List UInt8)) (j : Nat) (h : j < W.length) : settleF kept 0 (W.take (j + 1)) S = if kept j = true then (settleF kept 0 (W.take j) S).set (W[j]).1 (W[j]).2 else settleF kept 0 (W.take j) S := by
  rw [← List.take_append_getElem h, settleF_snoc, List.length_take, Nat.zero_add, Nat.min_eq_left (by omega)]
set_option maxHeartbeats 2000000 in
set_option maxRecDepth 10000 in
theorem dsettle_ok (p : Nat) (D : Dsk) (hD : D.ok) (hw : D.W.length < 1000000) (f : FuncId) (caps : List Value) (K : Assn) (hK : Up K) (kept : Nat → Bool) (hf : ∀ j : Nat, j < D.W.length → RO G f ([.int .i64 j] ++ caps) K (.bool (kept j))) :
    Triple G 43 [.pointer (some ⟨p, 0, none⟩), .func (.func f) #[] caps.toArray] [dsk p D, K] (fun v M => v = .tuple #[] ∧ M = [dsk p (D.settle kept), K]) := by
  refine Triple.enter Try.func43 rfl (by decide) rfl Try.ntmps43 rfl (fun F => ?_)
  refine WC.open P1 (fun y => ?_)
  unfold dskL
  dsimp only [List.cons_append, List.nil_append]
  repeat (first | refine GO ?_ | refine NW fun _ => ?_)
  refine WC.loop (σ := Nat) (fun j => j ≤ D.W.length)
    (fun j => [(0, .val (.pointer (some ⟨p, 0, none⟩))), (1, .val (.func (.func f) #[] caps.toArray)), (11, .val (.slice y.2.2.1 D.W.length y.2.2.2)), (12, .val (.int .i64 D.W.length)), (13, .val (.int .i64 j))])
    (fun j => [blk p [.slice y.1 D.S.length y.2.1, .slice y.2.2.1 D.W.length y.2.2.2] 78,
      ownS y.1 D.S.length y.2.1 118 64 ((settleF kept 0 (D.W.take j) D.S).flatMap secC), ownS y.2.2.1 D.W.length y.2.2.2 120 65 (D.W.flatMap looC), K, F]) (fun j => D.W.length - j) 0 (Nat.zero_le _) ⟨rfl, rfl, rfl, rfl, rfl, trivial⟩ II ?_
  rintro j hj
  by_cases hlt : j < D.W.length
  rotate_left
  · have hje : j = D.W.length := by omega
    subst hje
    rw [List.take_length]
    repeat (first | refine GD ?_ | refine NW fun _ => ?_)
    refine ret0n ⟨_, ⟨rfl, rfl⟩, (Imp.nilS 120 65).trans (Imp.foldP (N := [ownS y.2.2.1 D.W.length y.2.2.2 120 65 (D.W.flatMap looC), K, F]) (y.1, y.2.1, none, 0) ?_ II)⟩
    unfold dskL Dsk.settle
    dsimp only
    rw [settleF_length]
    exact (by repeat (first | exact Picks.nil _ | apply Picks.cons | exact Pick.here _ _ | apply Pick.there))
  have hsn := settleF_succ kept D.W D.S j hlt
  have hxl := looC_len hD _ (List.getElem_mem hlt)
  obtain ⟨hx1, hx2⟩ := hD.w64 _ (List.getElem_mem hlt)
  have hRl := settleF_length kept (D.W.take j) 0 D.S
  have hR64 := settleF_64 kept (D.W.take j) 0 D.S hD.s64 (fun x hx => (hD.w64 x (List.mem_of_mem_take hx)).2)
  generalize settleF kept 0 (D.W.take j) D.S = R at *
  have hRc : ∀ s ∈ R, (secC s).length = 64 := fun s hs => by unfold secC; rw [List.length_map, hR64 s hs]
  refine WC.fact (Ent.some (Ent.own (a := y.2.2.1) (n := D.W.length) (cap := y.2.2.2) (T := 120) (size := 65) (cs := D.W.flatMap looC) MM) (by omega)) ?_
  rintro ⟨bw, offw, hyw⟩
  refine WC.fact (Ent.some (Ent.own (a := y.1) (n := D.S.length) (cap := y.2.1) (T := 118) (size := 64) (cs := R.flatMap secC) MM) (by omega)) ?_
  rintro ⟨bs, offs, hys⟩
  rw [hyw, hys]
  repeat (first | refine GD ?_ | refine NW fun _ => ?_)
  refine WL.step rfl (OP.loadA (l := looC D.W[j]) rfl rfl rfl rfl ((Ent.elMA (looC_len hD) (Ent.own MM) hlt)) hxl rfl rfl ?_)
  generalize D.W[j] = e at *
  obtain ⟨ei, eb⟩ := e
  dsimp only at hsn hx1 hx2
  repeat (first | refine GD ?_ | refine NW fun _ => ?_)
  rename_i x9
  refine WL.step rfl (OP.store (vs := looC (ei, eb)) (M := [blk x9 (looC (ei, eb)) 120, blk p [.slice (some ⟨bs, offs, none⟩) D.S.length y.2.1, .slice (some ⟨bw, offw, none⟩) D.W.length y.2.2.2] 78,
      ownS (some ⟨bs, offs, none⟩) D.S.length y.2.1 118 64 (R.flatMap secC), ownS (some ⟨bw, offw, none⟩) D.W.length y.2.2.2 120 65 (D.W.flatMap looC), K, F]) rfl rfl rfl rfl rfl (allOne_loo _) hxl (UpdM.here (setMany_all (by rw [hxl]; rfl))) rfl ?_)
  repeat (first | refine GD ?_ | refine NW fun _ => ?_)
  refine WL.step rfl (OP.callVRO (vs := [.int .i64 j]) rfl rfl rfl (hf j hlt) (Ent.at hK MM) rfl rfl ?_)
  cases hkj : kept j
  · rw [hkj, if_neg (by simp)] at hsn
    repeat (first | refine GD ?_ | refine NW fun _ => ?_)
    exact ⟨j + 1, by omega, by omega, ⟨rfl, rfl, rfl, rfl, rfl, trivial⟩, by rw [hsn]; exact II⟩
  · rw [hkj, if_pos rfl] at hsn
    repeat (first | refine GD ?_ | refine NW fun _ => ?_)
    have hel : (secC eb).length = 64 := by simp [secC, hx2]
    refine RD 9 10 (_) ?_
    refine WP 0 ?_
    refine WP 1 ?_
    refine WP 2 ?_
    refine VV 3 ?_
    refine WP 4 ?_
    refine VV 5 ?_
    refine WP 6 ?_
    refine VL 7 (.agg (secC eb).toArray) rfl rfl rfl rfl (.inr ⟨rfl, secC eb, rfl, hel, (cut_all (n := 64) (x := .int .i64 ei) (T := 120) MM hel).ent.1⟩) ?_
    refine WP 8 ?_
    refine WH.only 9 rfl rfl (by kernel_rfl) rfl (OP.storeO (vs := secC eb) (i := ei * 64) rfl rfl rfl rfl rfl (allOne_bytes _) hel P1 (flatM_set hRc (k := ei) (by omega) hel) rfl ⟨(fun h => nomatch h), ?_⟩)
    refine DN ?_
    repeat (first | refine GD ?_ | refine NW fun _ => ?_)
    exact ⟨j + 1, by omega, by omega, ⟨rfl, rfl, rfl, rfl, rfl, trivial⟩, by rw [hsn]; exact II⟩
theorem Imp.emp {L : List Assn} : Imp L ((fun _ => True) :: L) := fun h s => ⟨Hp.empty, h, fun _ => .inl rfl, by funext b; simp [Hp.join, Hp.empty], trivial, s⟩
theorem dflush1_ro (j : Int) : RO G 66 [.int .i64 j] (fun _ => True) (.bool true) := by
  refine RO.enter Try.func66 rfl (by decide) rfl Try.ntmps66 rfl (fun A hu hA => ?_) (fun _ _ _ h => h)
  repeat (first | refine GD ?_ | refine NW fun _ => ?_)
  exact ret1 rfl ⟨rfl, MM⟩
theorem dflush_ok (p : Nat) (D : Dsk) (hD : D.ok) (hw : D.W.length < 1000000) : Triple G 41 [.pointer (some ⟨p, 0, none⟩)] [dsk p D] (fun v M => v = .tuple #[] ∧ M = [dsk p D.flush]) := by
  refine Triple.enter Try.func41 rfl (by decide) rfl Try.ntmps41 rfl (fun F => ?_)
  repeat (first | refine GO ?_ | refine NW fun _ => ?_)
  refine WL.step rfl (OP.call (pre := [dsk p D, fun _ => True]) rfl rfl (dsettle_ok p D hD hw 66 [] (fun _ => True) (fun _ _ _ h => h) (fun _ => true) (fun j _ => dflush1_ro j)) (Imp.emp.trans PS) rfl rfl ?_)
  rintro _ _ ⟨rfl, rfl⟩
  repeat (first | refine GO ?_ | refine NW fun _ => ?_)
  exact ret0n ⟨_, ⟨rfl, rfl⟩, II⟩
end Go.Proofs.Yteednjcoapmkaaa
/- Contracts of functions of the given program, and plain laws on what they compute: parts of the proofs of laws. -/

namespace Go.Proofs.Yteednjcoapmkaaa
open Go Go.GL

/-! the journal: heads -/
def hdC (h : Hd) : List Value := [.int .i64 h.turn, .int .i64 h.first, .int .i64 h.gen, .int .i64 h.low]
set_option maxHeartbeats 2000000 in
set_option maxRecDepth 10000 in
theorem hsector_rt (h : Hd) : RT G 59 [.agg (hdC h).toArray] (fun _ => True) (BytesNew (headS h)) := by
  refine RT.enter Try.func59 rfl (by decide) rfl Try.ntmps59 rfl (fun A hu hA => ?_)
  have h1 := numB_nine h.turn
  have h2 := numB_nine h.first
  have h3 := numB_nine h.gen
  have h4 := numB_nine h.low
  have hb := headB_len h
  rw [show hdC h = [.int .i64 h.turn, .int .i64 h.first, .int .i64 h.gen, .int .i64 h.low] from rfl]
  repeat (first | refine GO ?_ | refine NW fun _ => ?_)
  rename_i q
  refine RD 7 7 (_) ?_
  refine WP 0 ?_
  refine VV 1 ?_
  refine WP 3 ?_
  refine VV 4 ?_
  refine WH.only 2 rfl rfl (by kernel_rfl) rfl (OP.call (pre := [ownS none 0 0 5 1 (([] : List UInt8).map byteV)]) rfl rfl (number_ok none 0 0 [] h.turn (by omega)) (Imp.nilS 5 1) rfl rfl (fun v M hM => ?_))
  obtain ⟨a1, cap1, rfl, rfl⟩ := hM
  refine ⟨fun _ => II, ?_⟩
  refine WH.only 5 rfl rfl (by kernel_rfl) rfl (OP.call (pre := [ownS a1 _ cap1 5 1 _]) rfl rfl (number_ok a1 _ cap1 _ h.first (by omega)) PS rfl rfl (fun v M hM => ?_))
  obtain ⟨a2, cap2, rfl, rfl⟩ := hM
  refine ⟨fun _ => II, ?_⟩
  refine WP 6 ?_
  refine DN ?_
  repeat (first | refine GO ?_ | refine NW fun _ => ?_)
  refine RD 13 13 ([blk q [.int .i64 h.turn, .int .i64 h.first, .int .i64 h.gen, .int .i64 h.low] 69, A]) ?_
  refine WP 0 ?_
  refine WP 1 ?_
  refine VV 2 ?_
  refine WP 4 ?_
  refine VV 5 ?_
  refine WH.only 3 rfl rfl (by kernel_rfl) rfl (OP.call (pre := [ownS a2 _ cap2 5 1 _]) rfl rfl (number_ok a2 _ cap2 _ h.gen (by omega)) PS rfl rfl (fun v M hM => ?_))
  obtain ⟨a3, cap3, rfl, rfl⟩ := hM
  refine ⟨fun _ => II, ?_⟩
  refine WH.only 6 rfl rfl (by kernel_rfl) rfl (OP.call (pre := [ownS a3 _ cap3 5 1 _]) rfl rfl (number_ok a3 _ cap3 _ h.low (by omega)) PS rfl rfl (fun v M hM => ?_))
  obtain ⟨a4, cap4, rfl, rfl⟩ := hM
  refine ⟨fun _ => II, ?_⟩
  refine WH.only 7 rfl rfl (by kernel_rfl) rfl (OP.callRT rfl rfl (sector_ok a4 _ cap4 (headB h) (by unfold headB; simp; omega) (by unfold headB at hb; simp at hb ⊢; omega)) (Ent.own (T := 5) (by unfold headB; exact MM)) rfl rfl (fun v E hE => ?_))
  obtain ⟨v1, rfl, a6, cap6, rfl, rfl⟩ := hE
  refine ⟨fun _ => II, ?_⟩
  refine WP 8 ?_
  refine WP 9 ?_
  refine WP 10 ?_
  refine WP 11 ?_
  refine WP 12 ?_
  refine DN ?_
  repeat (first | refine GO ?_ | refine NW fun _ => ?_)
  exact ret1 rfl ⟨[_], ⟨a6, cap6, rfl, rfl⟩, II⟩
/-- the answer of headOf -/
def HeadPost (l : List UInt8) (slot : Int) (v : Value) : Prop :=
  match headOf l slot with
  | some h => v = .tuple #[.agg (hdC h).toArray, .bool true]
  | none => ∃ h, v = .tuple #[.agg (hdC h).toArray, .bool false]
set_option maxHeartbeats 4000000 in
set_option maxRecDepth 10000 in
theorem headOf_rt (a : Option Addr) (n c : Nat) (l : List UInt8) (slot : Int) (hn : n = l.length) (hc : n ≤ c) (hs : n < 1000000) : RT G 57 [.slice a n c, .int .i64 slot] (readS a n 1 (l.map byteV)) (fun v E => HeadPost l slot v ∧ E = []) := by
  refine RT.enter Try.func57 rfl (by decide) rfl Try.ntmps57 rfl (fun A hu hA => ?_)
  have hE : ∀ {L}, A ∈ L → Ent L (readS a n 1 (l.map byteV)) := fun m => Ent.mem m hu hA
  repeat (first | refine GD ?_ | refine NW fun _ => ?_)
  refine WL.step rfl (OP.callRT rfl rfl (open_ok a n c l hn hc hs) (hE MM) rfl rfl ?_)
  rintro v E hO
  unfold OpenPost at hO
  by_cases ho : OpenOk l
  rotate_left
  · rw [if_neg ho] at hO
    obtain ⟨rfl, rfl⟩ := hO
    have hdec : headOf l slot = none := by unfold headOf; rw [if_neg (fun h => ho h.1)]
    repeat (first | refine GD ?_ | refine NW fun _ => ?_)
    refine retc2 rfl rfl rfl rfl rfl (HasCut.ent (n := 4) HC).1 ⟨[], ⟨?_, rfl⟩, II⟩
    unfold HeadPost
    rw [hdec]
    exact ⟨⟨0, 0, 0, 0⟩, rfl⟩
  rw [if_pos ho] at hO
  obtain ⟨v1, rfl, a2, cap2, rfl, rfl⟩ := hO
  have hdR : headOf l slot = if HdOk l slot (hd4 (l.take (l.length - 4), 0)).1 (hd4 (l.take (l.length - 4), 0)).2.2 then some (hd4 (l.take (l.length - 4), 0)).1 else none := by
    unfold headOf
    by_cases hk : HdOk l slot (hd4 (l.take (l.length - 4), 0)).1 (hd4 (l.take (l.length - 4), 0)).2.2
    · rw [if_pos ⟨ho, hk⟩, if_pos hk]
    · rw [if_neg (fun h => hk h.2), if_neg hk]
  have hl4 : (l.take (l.length - 4)).length < 1000000 := by rw [List.length_take]; omega
  generalize l.take (l.length - 4) = l4 at *
  refine WL.fact (Ent.ownLe (a := a2) (n := l4.length) (cap := cap2) (T := 5) (size := 1) (cs := l4.map byteV) MM) (fun hc2 => ?_)
  have hby : Bytes (ownS a2 l4.length cap2 5 1 (l4.map byteV)) l4 (.slice a2 l4.length cap2) := ⟨a2, l4.length, cap2, rfl, rfl, hc2, fun h x => read_of_own x⟩
  generalize hO : ownS a2 l4.length cap2 5 1 (l4.map byteV) = O at *
  have huO : Up O := by rw [← hO]; exact up_ownS _ _ _ _ _ _
  repeat (first | refine GD ?_ | refine NW fun _ => ?_)
  refine WL.step rfl (OP.callRT rfl rfl (read0_ok a2 l4.length cap2) (fun _ _ => trivial) rfl rfl ?_)
  rintro v E ⟨r, rfl, rfl⟩
  unfold hd4 at hdR
  repeat (first | refine GD ?_ | refine NW fun _ => ?_)
  refine WL.step rfl (OP.call (pre := [blk r [.slice a2 l4.length cap2, .int .i64 (l4, 0).2] 133, O]) rfl rfl (numR_ok r _ (l4, 0) O huO hby (by first | exact hl4 | assumption)) PS rfl rfl ?_)
  rintro _ _ ⟨rfl, vy1, hy1, rfl⟩
  have by1 := numR_bd (l4, 0)
  have hly1 : (numR (l4, 0)).2.1.length < 1000000 := by
    refine Nat.lt_of_le_of_lt by1.1 ?_
    first | exact hl4 | assumption
  generalize numR (l4, 0) = y1 at *
  obtain ⟨xy1, sy1⟩ := y1
  dsimp only at hy1 by1 hly1 hdR ⊢
  repeat (first | refine GD ?_ | refine NW fun _ => ?_)
  refine WL.step rfl (OP.call (pre := [blk r [vy1, .int .i64 sy1.2] 133, O]) rfl rfl (numR_ok r _ sy1 O huO hy1 (by first | exact hl4 | assumption)) PS rfl rfl ?_)
  rintro _ _ ⟨rfl, vy2, hy2, rfl⟩
  have by2 := numR_bd sy1
  have hly2 : (numR sy1).2.1.length < 1000000 := by
    refine Nat.lt_of_le_of_lt by2.1 ?_
    first | exact hl4 | assumption
  generalize numR sy1 = y2 at *
  obtain ⟨xy2, sy2⟩ := y2
  dsimp only at hy2 by2 hly2 hdR ⊢
  repeat (first | refine GD ?_ | refine NW fun _ => ?_)
  refine WL.step rfl (OP.call (pre := [blk r [vy2, .int .i64 sy2.2] 133, O]) rfl rfl (numR_ok r _ sy2 O huO hy2 (by first | exact hl4 | assumption)) PS rfl rfl ?_)
  rintro _ _ ⟨rfl, vy3, hy3, rfl⟩
  have by3 := numR_bd sy2
  have hly3 : (numR sy2).2.1.length < 1000000 := by
    refine Nat.lt_of_le_of_lt by3.1 ?_
    first | exact hl4 | assumption
  generalize numR sy2 = y3 at *
  obtain ⟨xy3, sy3⟩ := y3
  dsimp only at hy3 by3 hly3 hdR ⊢
  repeat (first | refine GD ?_ | refine NW fun _ => ?_)
  refine WL.step rfl (OP.call (pre := [blk r [vy3, .int .i64 sy3.2] 133, O]) rfl rfl (numR_ok r _ sy3 O huO hy3 (by first | exact hl4 | assumption)) PS rfl rfl ?_)
  rintro _ _ ⟨rfl, vy4, hy4, rfl⟩
  have by4 := numR_bd sy3
  have hly4 : (numR sy3).2.1.length < 1000000 := by
    refine Nat.lt_of_le_of_lt by4.1 ?_
    first | exact hl4 | assumption
  generalize numR sy3 = y4 at *
  obtain ⟨xy4, sy4⟩ := y4
  dsimp only at hy4 by4 hly4 hdR ⊢
  repeat (first | refine GD ?_ | refine NW fun _ => ?_)
  refine WL.step rfl (OP.callRO rfl rfl (err_ro r vy4 sy4.2) (Ent.whole (T := 133) MM) rfl rfl ?_)
  obtain ⟨ly4, ey4⟩ := sy4
  dsimp only at hdR ⊢
  by_cases he : ey4 = 0
  rotate_left
  · have hdec : headOf l slot = none := by rw [hdR, if_neg (fun h => he h.1)]
    repeat (first | refine GD ?_ | refine NW fun _ => ?_)
    refine RD 8 10 (_) ?_
    refine VV 0 ?_
    refine WP 1 ?_
    refine WP 2 ?_
    refine VF 3 ?_
    refine VF 4 ?_
    refine VF 5 ?_
    refine VF 6 ?_
    refine WP 7 ?_
    refine WH.only 8 rfl rfl (by kernel_rfl) rfl (OP.store rfl rfl rfl rfl rfl rfl rfl UP rfl ⟨(fun h => nomatch h), ?_⟩)
    refine WP 9 ?_
    refine DN ?_
    repeat (first | refine GD ?_ | refine NW fun _ => ?_)
    refine retc2 rfl rfl rfl rfl rfl (HasCut.ent (n := 4) HC).1 ⟨[], ⟨?_, rfl⟩, II⟩
    unfold HeadPost
    rw [hdec]
    exact ⟨⟨xy1, xy2, xy3, xy4⟩, rfl⟩
  by_cases h1 : xy4 ≤ xy3
  rotate_left
  · have hdec : headOf l slot = none := by rw [hdR, if_neg (fun h => h1 h.2.1)]
    repeat (first | refine GD ?_ | refine NW fun _ => ?_)
    refine RD 8 10 (_) ?_
    refine VV 0 ?_
    refine WP 1 ?_
    refine WP 2 ?_
    refine VF 3 ?_
    refine VF 4 ?_
    refine VF 5 ?_
    refine VF 6 ?_
    refine WP 7 ?_
    refine WH.only 8 rfl rfl (by kernel_rfl) rfl (OP.store rfl rfl rfl rfl rfl rfl rfl UP rfl ⟨(fun h => nomatch h), ?_⟩)
    refine WP 9 ?_
    refine DN ?_
    repeat (first | refine GD ?_ | refine NW fun _ => ?_)
    refine retc2 rfl rfl rfl rfl rfl (HasCut.ent (n := 4) HC).1 ⟨[], ⟨?_, rfl⟩, II⟩
    unfold HeadPost
    rw [hdec]
    exact ⟨⟨xy1, xy2, xy3, xy4⟩, rfl⟩
  by_cases h2 : 0 < xy2
  rotate_left
  · have hdec : headOf l slot = none := by rw [hdR, if_neg (fun h => h2 h.2.2.1)]
    repeat (first | refine GD ?_ | refine NW fun _ => ?_)
    refine RD 8 10 (_) ?_
    refine VV 0 ?_
    refine WP 1 ?_
    refine WP 2 ?_
    refine VF 3 ?_
    refine VF 4 ?_
    refine VF 5 ?_
    refine VF 6 ?_
    refine WP 7 ?_
    refine WH.only 8 rfl rfl (by kernel_rfl) rfl (OP.store rfl rfl rfl rfl rfl rfl rfl UP rfl ⟨(fun h => nomatch h), ?_⟩)
    refine WP 9 ?_
    refine DN ?_
    repeat (first | refine GD ?_ | refine NW fun _ => ?_)
    refine retc2 rfl rfl rfl rfl rfl (HasCut.ent (n := 4) HC).1 ⟨[], ⟨?_, rfl⟩, II⟩
    unfold HeadPost
    rw [hdec]
    exact ⟨⟨xy1, xy2, xy3, xy4⟩, rfl⟩
  by_cases h3 : xy1 % 2 = slot
  rotate_left
  · have hdec : headOf l slot = none := by rw [hdR, if_neg (fun h => h3 h.2.2.2.1)]
    repeat (first | refine GD ?_ | refine NW fun _ => ?_)
    refine RD 8 10 (_) ?_
    refine VV 0 ?_
    refine WP 1 ?_
    refine WP 2 ?_
    refine VF 3 ?_
    refine VF 4 ?_
    refine VF 5 ?_
    refine VF 6 ?_
    refine WP 7 ?_
    refine WH.only 8 rfl rfl (by kernel_rfl) rfl (OP.store rfl rfl rfl rfl rfl rfl rfl UP rfl ⟨(fun h => nomatch h), ?_⟩)
    refine WP 9 ?_
    refine DN ?_
    repeat (first | refine GD ?_ | refine NW fun _ => ?_)
    refine retc2 rfl rfl rfl rfl rfl (HasCut.ent (n := 4) HC).1 ⟨[], ⟨?_, rfl⟩, II⟩
    unfold HeadPost
    rw [hdec]
    exact ⟨⟨xy1, xy2, xy3, xy4⟩, rfl⟩
  repeat (first | refine GD ?_ | refine NW fun _ => ?_)
  have hsec := hsector_rt ⟨xy1, xy2, xy3, xy4⟩
  have hlen := headS_len ⟨xy1, xy2, xy3, xy4⟩
  have hok : HdOk l slot ⟨xy1, xy2, xy3, xy4⟩ ey4 ↔ headS ⟨xy1, xy2, xy3, xy4⟩ = l := ⟨fun h => h.2.2.2.2, fun h => ⟨he, h1, h2, h3, h⟩⟩
  generalize headS ⟨xy1, xy2, xy3, xy4⟩ = hS at *
  by_cases h4 : hS = l
  rotate_left
  all_goals
    refine RD 8 10 (_) ?_
    refine VV 0 ?_
    refine WP 1 ?_
    refine WP 2 ?_
    refine VV 3 ?_
    refine WP 5 ?_
    refine WH.onlyG (q := true) 4 rfl rfl rfl rfl rfl rfl rfl (by kernel_rfl) rfl (.inl rfl) (fun _ => OP.callRT rfl rfl hsec (fun _ _ => trivial) rfl rfl (fun v E hE' => ?_)) (fun h => nomatch h)
    obtain ⟨a6, cap6, rfl, rfl⟩ := hE'
    refine ⟨fun _ => II, ?_⟩
    refine WH.onlyG (q := true) 6 rfl rfl rfl rfl rfl rfl rfl (by kernel_rfl) rfl (.inl rfl) (fun _ => OP.callRO rfl rfl (beq_ro a6 a _ cap6 n c hS l) (Ent.and (Ent.own (T := 5) MM) (hE MM)) rfl rfl ⟨fun _ => II, ?_⟩) (fun h => nomatch h)
    first | rw [decide_eq_false h4] | rw [decide_eq_true h4]
    refine WP 7 ?_
    refine WH.only 8 rfl rfl (by kernel_rfl) rfl (OP.store rfl rfl rfl rfl rfl rfl rfl UP rfl ⟨(fun h => nomatch h), ?_⟩)
    refine WP 9 ?_
    refine DN ?_
    repeat (first | refine GD ?_ | refine NW fun _ => ?_)
    refine retc2 rfl rfl rfl rfl rfl (HasCut.ent (n := 4) HC).1 ⟨[], ⟨?_, rfl⟩, II⟩
    unfold HeadPost
    rw [hdR]
    first
      | rw [if_neg (fun h => h4 (hok.1 h))]; exact ⟨⟨xy1, xy2, xy3, xy4⟩, rfl⟩
      | rw [if_pos (hok.2 h4)]; exact rfl
end Go.Proofs.Yteednjcoapmkaaa
