/- Contracts of functions of the given program, and plain laws: parts of the proofs of laws. -/
import Derived.Test.YteednjcoapmkaaaGreatDoorZVol7
import Derived.Test.YteednjcoapmkaaaGreatDoorZVol11
import Derived.Test.YteednjcoapmkaaaGreatDoorZVol9
import Derived.Test.YteednjcoapmkaaaGreatDoorZVol6
/- Contracts of functions of the given program, and plain laws on what they compute: parts of the proofs of laws. -/

namespace Go.Proofs.YteednjcoapmkaaaGreatDoor
open Go Go.GL

/-! the disk -/
def secC (s : List UInt8) : List Value := s.map byteV
def looC (x : Nat × List UInt8) : List Value := .int .i64 x.1 :: x.2.map byteV
def dskL (p : Nat) (D : Dsk) (x : Option Addr × Nat × Option Addr × Nat) : List Assn :=
  [blk p [.slice x.1 D.S.length x.2.1, .slice x.2.2.1 D.W.length x.2.2.2] 98,
   ownS x.1 D.S.length x.2.1 129 64 (D.S.flatMap secC),
   ownS x.2.2.1 D.W.length x.2.2.2 131 65 (D.W.flatMap looC)]
def dsk (p : Nat) (D : Dsk) : Assn := exA (dskL p D)
theorem up_dsk (p : Nat) (D : Dsk) : Up (dsk p D) := up_exA _
theorem repL_sec (n : Nat) : repL (List.replicate 64 (.int .u8 0)) n = (List.replicate n zero64).flatMap secC := by
  induction n with
  | zero => rfl
  | succ n ih => rw [repL, ih, List.replicate_succ (a := zero64), List.flatMap_cons]; rfl
theorem secC_len {D : Dsk} (h : D.ok) : ∀ s ∈ D.S, (secC s).length = 64 := fun s hs => by unfold secC; rw [List.length_map, h.s64 s hs]
theorem looC_len {D : Dsk} (h : D.ok) : ∀ x ∈ D.W, (looC x).length = 65 := fun x hx => by unfold looC; rw [List.length_cons, List.length_map, (h.w64 x hx).2]
set_option maxRecDepth 10000 in
theorem dnew_rt (n : Int) : RT G 8 [.int .i64 n] (fun _ => True) (fun v E => ∃ p, v = .pointer (some ⟨p, 0, none⟩) ∧ E = [dsk p (Dsk.new n)]) := by
  refine RT.enter Tryz.func8 rfl (by decide) rfl Tryz.ntmps8 rfl (fun A hu hA => ?_)
  repeat (first | refine GO ?_ | refine NW fun _ => ?_)
  have e : (if 0 < (if 1024 < n then 1024 else n) then (if 1024 < n then 1024 else n) else 0) = max 0 (min n 1024) := by split <;> split <;> omega
  rw [e]
  have hb : 0 ≤ max 0 (min n 1024) ∧ max 0 (min n 1024) ≤ 1024 := by omega
  have hd : Dsk.new n = ⟨List.replicate (max 0 (min n 1024)).toNat zero64, []⟩ := rfl
  rw [hd]
  generalize max 0 (min n 1024) = m at *
  refine WL.step rfl (OP.makeS (z := List.replicate 64 (.int .u8 0)) rfl rfl rfl rfl rfl rfl rfl rfl hb.1 (by omega) (by omega) rfl rfl (fun b => ?_))
  rw [repL_sec m.toNat]
  repeat (first | refine GO ?_ | refine NW fun _ => ?_)
  rename_i p
  refine ret1 rfl ⟨_, ⟨p, rfl, rfl⟩, (Imp.nilS 131 65).trans <| Imp.foldP (some ⟨b, 0, none⟩, m.toNat, none, 0) (by dsimp only [dskL]; rw [List.length_replicate]; exact (by repeat (first | exact Picks.nil _ | apply Picks.cons | exact Pick.here _ _ | apply Pick.there))) (Imp.refl _)⟩
theorem dlen_ro (p : Nat) (D : Dsk) : RO G 28 [.pointer (some ⟨p, 0, none⟩)] (dsk p D) (.int .i64 D.S.length) := by
  refine RO.enterEx Tryz.func28 rfl (by decide) rfl Tryz.ntmps28 rfl (fun x A hu hA => ?_)
  have hE : ∀ {L}, A ∈ L → Ent L (cellsAt p 0 [.slice x.1 D.S.length x.2.1, .slice x.2.2.1 D.W.length x.2.2.2]) := fun m => Ent.of hu hA m (Ent.whole (List.Mem.head _))
  repeat (first | refine GD ?_ | refine NW fun _ => ?_)
  refine WL.step rfl (OP.load1 (v := .slice x.1 D.S.length x.2.1) rfl rfl rfl rfl (Ent.one (i := 0) (hE MM) rfl) rfl rfl ?_)
  repeat (first | refine GD ?_ | refine NW fun _ => ?_)
  exact ret1 rfl ⟨rfl, MM⟩
theorem in_case (i : Int) (n : Nat) : (0 ≤ i ∧ i < n) ∨ ¬ (0 ≤ i ∧ i < n) := Classical.em _
def diskT : ByteArray := ⟨#[100, 105, 115, 107]⟩
set_option maxRecDepth 10000 in
theorem dthere_rt (p : Nat) (D : Dsk) (i : Int) : RT G 66 [.pointer (some ⟨p, 0, none⟩), .int .i64 i] (dsk p D) (IsEr (if 0 ≤ i ∧ i < D.S.length then none else some ([(diskT, i)], 5))) := by
  refine RT.enter Tryz.func66 rfl (by decide) rfl Tryz.ntmps66 rfl (fun A hu hA => ?_)
  have hE : ∀ {L}, A ∈ L → Ent L (dsk p D) := fun m => Ent.mem m hu hA
  by_cases h0 : i < 0
  · rw [if_neg (by omega)]
    repeat (first | refine GD ?_ | refine NW fun _ => ?_)
    refine WL.step rfl (OP.call (pre := []) rfl rfl (wrap_ok diskT i 5 (by decide)) PS rfl rfl ?_)
    intro v M hF
    obtain ⟨M', h1, h2⟩ := hF.isEr
    repeat (first | refine GD ?_ | refine NW fun _ => ?_)
    exact ret1 rfl ⟨M', h1, Imp.app h2 _⟩
  repeat (first | refine GD ?_ | refine NW fun _ => ?_)
  refine WL.guardT rfl rfl rfl rfl (OP.callRO rfl rfl (dlen_ro p D) (hE MM) rfl rfl ?_)
  by_cases h1 : i < D.S.length
  · rw [if_pos (by omega)]
    repeat (first | refine GD ?_ | refine NW fun _ => ?_)
    exact ret1 rfl ⟨[], ⟨rfl, rfl⟩, Imp.refl _⟩
  · rw [if_neg (by omega)]
    repeat (first | refine GD ?_ | refine NW fun _ => ?_)
    refine WL.step rfl (OP.call (pre := []) rfl rfl (wrap_ok diskT i 5 (by decide)) PS rfl rfl ?_)
    intro v M hF
    obtain ⟨M', h1, h2⟩ := hF.isEr
    repeat (first | refine GD ?_ | refine NW fun _ => ?_)
    exact ret1 rfl ⟨M', h1, Imp.app h2 _⟩
/-- Write: the answer, the memory -/
def WrPost (p : Nat) (D : Dsk) (i : Int) (l : List UInt8) (v : Value) (M : List Assn) : Prop :=
  if (0 ≤ i ∧ i < D.S.length) ∧ l.length = 64 then v = .nilIface ∧ M = [dsk p (D.put i.toNat l)]
  else ∃ E, IsEr (some ([(diskT, i)], if 0 ≤ i ∧ i < D.S.length then 1 else 5)) v E ∧ M = E ++ [dsk p D]
theorem min_lt {a b : Nat} (h : a < b) : min a b = a := by omega
set_option maxHeartbeats 1000000 in
set_option maxRecDepth 10000 in
theorem dwrite_ok (p : Nat) (D : Dsk) (i : Int) (l : List UInt8) (a : Option Addr) (cap : Nat) (hw : D.W.length < 1000000) (hl : l.length < 1000000) :
    Triple G 32 [.pointer (some ⟨p, 0, none⟩), .int .i64 i, .slice a l.length cap] [dsk p D, ownS a l.length cap 5 1 (l.map byteV)] (WrPost p D i l) := by
  refine Triple.enter Tryz.func32 rfl (by decide) rfl Tryz.ntmps32 rfl (fun F => ?_)
  repeat (first | refine GO ?_ | refine NW fun _ => ?_)
  refine WL.step rfl (OP.callRT rfl rfl (dthere_rt p D i) (Ent.at (up_dsk p D) MM) rfl rfl ?_)
  by_cases hi : 0 ≤ i ∧ i < D.S.length
  rotate_left
  · rw [if_neg hi]
    rintro _ _ ⟨ch, h1, rfl, rfl⟩
    cases ch with
    | nil => cases h1
    | cons x r =>
      dsimp only [valOf]
      repeat (first | refine GD ?_ | refine NW fun _ => ?_)
      refine ret1 rfl ⟨[chainR (x :: r) 5, dsk p D], ?_, II⟩
      unfold WrPost
      rw [if_neg (fun h => hi h.1), if_neg hi]
      exact ⟨_, ⟨x :: r, h1, rfl, rfl⟩, rfl⟩
  rw [if_pos hi]
  rintro _ _ ⟨rfl, rfl⟩
  repeat (first | refine GO ?_ | refine NW fun _ => ?_)
  rename_i x
  have hcells : ∃ w, w.length = min l.length 64 ∧ ((l.map byteV).take (min l.length 64 * 1)) = w := ⟨_, by simp, rfl⟩
  obtain ⟨w, hwl, hw1⟩ := hcells
  have hone : allOne w = true := by rw [← hw1, ← List.map_take]; exact allOne_bytes _
  refine WL.imp (M := [blk x (.int .i64 i :: List.replicate 64 (.int .u8 0)) 131, dsk p D, ownS a l.length cap 5 1 (l.map byteV), F]) (Imp.refl _) ?_
  refine WL.step rfl (OP.copyB (M := [blk x (.int .i64 i :: (w ++ List.replicate (64 - w.length) (.int .u8 0))) 131, dsk p D, ownS a l.length cap 5 1 (l.map byteV), F]) rfl rfl rfl rfl rfl rfl rfl (Ent.own MM) hw1 hone (UpdM.here ?_) rfl rfl ?_)
  · have h := setMany_mid w [.int .i64 i] (List.replicate w.length (.int .u8 0)) (List.replicate (64 - w.length) (.int .u8 0)) (by simp)
    rw [List.append_assoc, List.replicate_append_replicate, show w.length + (64 - w.length) = 64 by omega] at h
    simpa using h
  by_cases hm : 64 < l.length
  · rw [show min l.length 64 = 64 by omega]
    have h64 : ¬ l.length = 64 := by omega
    repeat (first | refine GD ?_ | refine NW fun _ => ?_)
    refine WL.step rfl (OP.call (pre := []) rfl rfl (wrap_ok diskT i 1 (by decide)) PS rfl rfl ?_)
    intro v M hF
    obtain ⟨M', h1, h2⟩ := hF.isEr
    repeat (first | refine GD ?_ | refine NW fun _ => ?_)
    refine ret1 rfl ⟨M' ++ [dsk p D], ?_, ?_⟩
    · unfold WrPost
      rw [if_neg (fun h => h64 h.2), if_pos hi]
      exact ⟨M', h1, rfl⟩
    · rw [List.append_assoc]
      exact (Imp.app h2 _).trans (Imp.appL II _)
  rw [show min l.length 64 = l.length by omega]
  by_cases h64 : l.length = 64
  rotate_left
  · repeat (first | refine GD ?_ | refine NW fun _ => ?_)
    refine WL.step rfl (OP.call (pre := []) rfl rfl (wrap_ok diskT i 1 (by decide)) PS rfl rfl ?_)
    intro v M hF
    obtain ⟨M', h1, h2⟩ := hF.isEr
    repeat (first | refine GD ?_ | refine NW fun _ => ?_)
    refine ret1 rfl ⟨M' ++ [dsk p D], ?_, ?_⟩
    · unfold WrPost
      rw [if_neg (fun h => h64 h.2), if_pos hi]
      exact ⟨M', h1, rfl⟩
    · rw [List.append_assoc]
      exact (Imp.app h2 _).trans (Imp.appL II _)
  have hwb : w = l.map byteV := by rw [← hw1, List.take_of_length_le]; simp; omega
  subst hwb
  rw [show List.replicate (64 - (l.map byteV).length) (Value.int .u8 0) = [] by rw [List.length_map, h64]; rfl, List.append_nil]
  have hii : (i.toNat : Int) = i := by omega
  have hlo : Value.int .i64 i :: l.map byteV = looC (i.toNat, l) := by unfold looC; rw [hii]
  rw [hlo]
  have hlen : (looC (i.toNat, l)).length = 65 := by rw [← hlo]; simp [h64]
  repeat (first | refine GD ?_ | refine NW fun _ => ?_)
  refine WC.open P1 (fun y => ?_)
  refine WC.imp (M := dskL p D y ++ [blk x (looC (i.toNat, l)) 131, F]) II ?_
  unfold dskL
  dsimp only [List.cons_append, List.nil_append]
  refine RD 7 11 (_) ?_
  refine WP 0 ?_
  refine WP 1 ?_
  refine WP 2 ?_
  refine WP 3 ?_
  refine VV 4 ?_
  refine VL 5 (.agg (looC (i.toNat, l)).toArray) rfl rfl rfl rfl (.inr ⟨rfl, looC (i.toNat, l), rfl, hlen, Ent.whole MM⟩) ?_
  refine WH.only 6 rfl rfl (by kernel_rfl) rfl (OP.sliceLit rfl rfl rfl rfl rfl (evLit1 rfl rfl hlen rfl rfl rfl) rfl rfl (fun b2 => ⟨fun _ => II, ?_⟩))
  refine WH.only 7 rfl rfl (by kernel_rfl) rfl (OP.append rfl rfl rfl rfl rfl rfl rfl rfl rfl P1 (Ent.own MM) (by rw [← hlo]; exact allOne_bytes l) (by omega) (by omega) rfl rfl (fun a' cap' => ⟨(fun h => nomatch h), ?_⟩))
  refine WP 8 ?_
  refine WP 9 ?_
  refine WH.only 10 rfl rfl (by kernel_rfl) rfl (OP.store rfl rfl rfl rfl rfl rfl rfl UP rfl ⟨(fun h => nomatch h), ?_⟩)
  refine DN ?_
  repeat (first | refine GD ?_ | refine NW fun _ => ?_)
  refine ret1 rfl ⟨[dsk p (D.put i.toNat l)], ?_, ?_⟩
  · unfold WrPost
    rw [if_pos ⟨hi, h64⟩]
    exact ⟨rfl, rfl⟩
  · refine Imp.foldP (N := [ownS (some ⟨b2, 0, none⟩) 1 1 131 65 (looC (i.toNat, l)), blk x (looC (i.toNat, l)) 131, F]) (y.1, y.2.1, a', cap') ?_ II
    unfold dskL Dsk.put
    dsimp only
    rw [List.length_append, List.flatMap_append, List.flatMap_cons, List.flatMap_nil, List.append_nil]
    exact (by repeat (first | exact Picks.nil _ | apply Picks.cons | exact Pick.here _ _ | apply Pick.there))
theorem Imp.blkR {b n : Nat} {c : List Value} {T : TypeId} {L : List Assn} (h : c.length = n) : Imp (blk b c T :: L) (readS (some ⟨b, 0, none⟩) n 1 c :: L) :=
  fun _ s => stars_head_mono (fun _ ⟨fr, hb, _⟩ => ⟨by omega, .inr ⟨b, 0, rfl, _, T, fr, hb, fun i v hi => by simpa using hi⟩⟩) s
theorem cut_all {L : List Assn} {b : Nat} {x : Value} {l : List Value} {T : TypeId} {n : Nat} (m : blk b (x :: l) T ∈ L) (h : l.length = n) : HasCut L b 1 n l := by
  have e : cutL (x :: l) 1 n = some l := cutL_all h
  induction L with
  | nil => cases m
  | cons A L ih => rcases List.mem_cons.1 m with h1 | h1
                   · subst h1; exact HasCut.here e
                   · exact HasCut.there (ih h1)
theorem Dsk.cur_def (D : Dsk) (i : Nat) : D.cur i = curF i (D.S.getD i []) D.W := rfl
/-- Read: the answer, what is new -/
def DReadPost (D : Dsk) (i : Int) (v : Value) (E : List Assn) : Prop :=
  if 0 ≤ i ∧ i < D.S.length then ∃ b, v = .tuple #[.slice (some ⟨b, 0, none⟩) 64 64, .nilIface] ∧ E = [readS (some ⟨b, 0, none⟩) 64 1 ((D.cur i.toNat).map byteV)]
  else ∃ e, IsEr (some ([(diskT, i)], 5)) e E ∧ v = .tuple #[.slice none 0 0, e]
theorem allOne_loo (x : Nat × List UInt8) : allOne (looC x) = true := allOne_bytes x.2
set_option maxHeartbeats 1000000 in
set_option maxRecDepth 10000 in
theorem dread_rt (p : Nat) (D : Dsk) (i : Int) (hD : D.ok) (hw : D.W.length < 1000000) : RT G 29 [.pointer (some ⟨p, 0, none⟩), .int .i64 i] (dsk p D) (DReadPost D i) := by
  refine RT.enterEx Tryz.func29 rfl (by decide) rfl Tryz.ntmps29 rfl (fun y A hu hA => ?_)
  have hE : ∀ {L}, A ∈ L → Ent L (dsk p D) := fun m => Ent.mem m hu fun k a => ⟨y, hA k a⟩
  have hF : ∀ {L}, A ∈ L → Ent L (cellsAt p 0 [.slice y.1 D.S.length y.2.1, .slice y.2.2.1 D.W.length y.2.2.2]) := fun m => Ent.of hu hA m (Ent.whole (List.Mem.head _))
  have hS : ∀ {L}, A ∈ L → Ent L (readS y.1 D.S.length 64 (D.S.flatMap secC)) := fun m => Ent.of hu hA m (Ent.own (List.Mem.tail _ (List.Mem.head _)))
  have hW : ∀ {L}, A ∈ L → Ent L (readS y.2.2.1 D.W.length 65 (D.W.flatMap looC)) := fun m => Ent.of hu hA m (Ent.own (List.Mem.tail _ (List.Mem.tail _ (List.Mem.head _))))
  repeat (first | refine GO ?_ | refine NW fun _ => ?_)
  refine WL.step rfl (OP.callRT rfl rfl (dthere_rt p D i) (hE MM) rfl rfl ?_)
  by_cases hi : 0 ≤ i ∧ i < D.S.length
  rotate_left
  · rw [if_neg hi]
    rintro _ _ ⟨ch, h1, rfl, rfl⟩
    cases ch with
    | nil => cases h1
    | cons x r =>
      dsimp only [valOf]
      repeat (first | refine GD ?_ | refine NW fun _ => ?_)
      refine ret2 rfl rfl ⟨[chainR (x :: r) 5], ?_, II⟩
      unfold DReadPost
      rw [if_neg hi]
      exact ⟨_, ⟨x :: r, h1, rfl, rfl⟩, rfl⟩
  rw [if_pos hi]
  rintro _ _ ⟨rfl, rfl⟩
  obtain ⟨k, rfl⟩ : ∃ k : Nat, i = k := ⟨i.toNat, by omega⟩
  have hk : k < D.S.length := by omega
  have hs64 := hD.s64 D.S[k] (List.getElem_mem hk)
  repeat (first | refine GD ?_ | refine NW fun _ => ?_)
  refine WL.step rfl (OP.load1 (v := .slice y.1 D.S.length y.2.1) rfl rfl rfl rfl (Ent.one (i := 0) (hF MM) rfl) rfl rfl ?_)
  refine WL.fact (Ent.some (hS MM) (by omega)) ?_
  rintro ⟨bs, off, hys⟩
  rw [hys]
  rw [hys] at hS
  repeat (first | refine GD ?_ | refine NW fun _ => ?_)
  refine WL.step rfl (OP.loadA (l := secC D.S[k]) rfl rfl rfl rfl ((Ent.elMA (secC_len hD) (hS MM) hk)) (secC_len hD _ (List.getElem_mem hk)) rfl rfl ?_)
  repeat (first | refine GD ?_ | refine NW fun _ => ?_)
  rename_i x
  refine WL.step rfl (OP.store (vs := secC D.S[k]) (M := [blk x (secC D.S[k]) 129, A]) rfl rfl rfl rfl rfl (allOne_bytes _) (secC_len hD _ (List.getElem_mem hk)) (UpdM.here (setMany_all (by rw [secC_len hD _ (List.getElem_mem hk)]; rfl))) rfl ?_)
  repeat (first | refine GO ?_ | refine NW fun _ => ?_)
  refine WL.step rfl (OP.load1 (v := .slice y.2.2.1 D.W.length y.2.2.2) rfl rfl rfl rfl (Ent.one (i := 1) (hF MM) rfl) rfl rfl ?_)
  repeat (first | refine GO ?_ | refine NW fun _ => ?_)
  have hcu : ∀ j, (secC (curF k D.S[k] (D.W.take j))).length = 64 := fun j => by
    unfold secC; rw [List.length_map]; exact curF_64 hs64 (fun x hx => (hD.w64 x (List.mem_of_mem_take hx)).2)
  refine WC.loop (σ := Nat) (fun j => j ≤ D.W.length)
    (fun j => [(0, .val (.pointer (some ⟨p, 0, none⟩))), (1, .val (.int .i64 k)), (7, .val (.pointer (some ⟨x, 0, none⟩))), (26, .val (.slice y.2.2.1 D.W.length y.2.2.2)), (27, .val (.int .i64 D.W.length)), (28, .val (.int .i64 j))])
    (fun j => [blk x (secC (curF k D.S[k] (D.W.take j))) 129, A]) (fun j => D.W.length - j) 0 (Nat.zero_le _) ⟨rfl, rfl, rfl, rfl, rfl, rfl, trivial⟩ (Imp.refl _) ?_
  rintro j hj
  by_cases hlt : j < D.W.length
  rotate_left
  · have hje : j = D.W.length := by omega
    subst hje
    have hcl := hcu D.W.length
    rw [List.take_length] at *
    have hcur : D.cur k = curF k D.S[k] D.W := by rw [Dsk.cur_def, List.getD_eq_getElem?_getD, List.getElem?_eq_getElem hk]; rfl
    repeat (first | refine GD ?_ | refine NW fun _ => ?_)
    refine ret2 rfl rfl ⟨[readS (some ⟨x, 0, none⟩) 64 1 ((D.cur k).map byteV)], ?_, ?_⟩
    · unfold DReadPost
      rw [if_pos hi]
      exact ⟨x, rfl, rfl⟩
    · rw [hcur]
      exact Imp.blkR hcl
  have hsn : curF k D.S[k] (D.W.take (j + 1)) = if (D.W[j]).1 = k then (D.W[j]).2 else curF k D.S[k] (D.W.take j) := by
    rw [← List.take_append_getElem hlt, curF_snoc]
  have hxl := looC_len hD _ (List.getElem_mem hlt)
  obtain ⟨hx1, hx2⟩ := hD.w64 _ (List.getElem_mem hlt)
  refine WC.fact (Ent.some (hW MM) (by omega)) ?_
  rintro ⟨bw, offw, hyw⟩
  rw [hyw]
  rw [hyw] at hW
  repeat (first | refine GD ?_ | refine NW fun _ => ?_)
  refine WL.step rfl (OP.loadA (l := looC D.W[j]) rfl rfl rfl rfl ((Ent.elMA (looC_len hD) (hW MM) hlt)) hxl rfl rfl ?_)
  generalize D.W[j] = e at *
  obtain ⟨ei, eb⟩ := e
  dsimp only at hsn hx1 hx2
  repeat (first | refine GD ?_ | refine NW fun _ => ?_)
  rename_i x9
  refine WL.step rfl (OP.store (vs := looC (ei, eb)) (M := [blk x9 (looC (ei, eb)) 131, blk x (secC (curF k D.S[k] (D.W.take j))) 129, A]) rfl rfl rfl rfl rfl (allOne_loo _) hxl (UpdM.here (setMany_all (by rw [hxl]; rfl))) rfl ?_)
  by_cases hek : ei = k
  · rw [if_pos hek] at hsn
    subst hek
    repeat (first | refine GD ?_ | refine NW fun _ => ?_)
    refine WL.step rfl (OP.loadA (l := secC eb) rfl rfl rfl rfl (cut_all (n := 64) (x := .int .i64 ei) (T := 131) MM (by simp [secC, hx2])).ent.1 (by simp [secC, hx2]) rfl rfl ?_)
    refine WL.step rfl (OP.store (vs := secC eb) (M := [blk x9 (looC (ei, eb)) 131, blk x (secC eb) 129, A]) rfl rfl rfl rfl rfl (allOne_bytes _) (by simp [secC, hx2]) (UpdM.there (UpdM.here (setMany_all (by rw [hcu]; simp [secC, hx2])))) rfl ?_)
    repeat (first | refine GD ?_ | refine NW fun _ => ?_)
    exact ⟨j + 1, by omega, by omega, ⟨rfl, rfl, rfl, rfl, rfl, rfl, trivial⟩, by rw [hsn]; exact II⟩
  · rw [if_neg hek] at hsn
    have hne : ¬ (ei : Int) = k := by omega
    repeat (first | refine GD ?_ | refine NW fun _ => ?_)
    exact ⟨j + 1, by omega, by omega, ⟨rfl, rfl, rfl, rfl, rfl, rfl, trivial⟩, by rw [hsn]; exact II⟩
theorem settleF_succ (kept : Nat → Bool) (W : List (Nat × List UInt8)) (S : List (List UInt8)) (j : Nat) (h : j < W.length) : settleF kept 0 (W.take (j + 1)) S = if kept j = true then (settleF kept 0 (W.take j) S).set (W[j]).1 (W[j]).2 else settleF kept 0 (W.take j) S := by
  rw [← List.take_append_getElem h, settleF_snoc, List.length_take, Nat.zero_add, Nat.min_eq_left (by omega)]
set_option maxHeartbeats 2000000 in
set_option maxRecDepth 10000 in
theorem dsettle_ok (p : Nat) (D : Dsk) (hD : D.ok) (hw : D.W.length < 1000000) (f : FuncId) (caps : List Value) (K : Assn) (hK : Up K) (kept : Nat → Bool) (hf : ∀ j : Nat, j < D.W.length → RO G f ([.int .i64 j] ++ caps) K (.bool (kept j))) :
    Triple G 64 [.pointer (some ⟨p, 0, none⟩), .func (.func f) #[] caps.toArray] [dsk p D, K] (fun v M => v = .tuple #[] ∧ M = [dsk p (D.settle kept), K]) := by
  refine Triple.enter Tryz.func64 rfl (by decide) rfl Tryz.ntmps64 rfl (fun F => ?_)
  refine WC.open P1 (fun y => ?_)
  unfold dskL
  dsimp only [List.cons_append, List.nil_append]
  repeat (first | refine GO ?_ | refine NW fun _ => ?_)
  refine WC.loop (σ := Nat) (fun j => j ≤ D.W.length)
    (fun j => [(0, .val (.pointer (some ⟨p, 0, none⟩))), (1, .val (.func (.func f) #[] caps.toArray)), (11, .val (.slice y.2.2.1 D.W.length y.2.2.2)), (12, .val (.int .i64 D.W.length)), (13, .val (.int .i64 j))])
    (fun j => [blk p [.slice y.1 D.S.length y.2.1, .slice y.2.2.1 D.W.length y.2.2.2] 98,
      ownS y.1 D.S.length y.2.1 129 64 ((settleF kept 0 (D.W.take j) D.S).flatMap secC), ownS y.2.2.1 D.W.length y.2.2.2 131 65 (D.W.flatMap looC), K, F]) (fun j => D.W.length - j) 0 (Nat.zero_le _) ⟨rfl, rfl, rfl, rfl, rfl, trivial⟩ II ?_
  rintro j hj
  by_cases hlt : j < D.W.length
  rotate_left
  · have hje : j = D.W.length := by omega
    subst hje
    rw [List.take_length]
    repeat (first | refine GD ?_ | refine NW fun _ => ?_)
    refine ret0n ⟨_, ⟨rfl, rfl⟩, (Imp.nilS 131 65).trans (Imp.foldP (N := [ownS y.2.2.1 D.W.length y.2.2.2 131 65 (D.W.flatMap looC), K, F]) (y.1, y.2.1, none, 0) ?_ II)⟩
    unfold dskL Dsk.settle
    dsimp only
    rw [settleF_length]
    exact (by repeat (first | exact Picks.nil _ | apply Picks.cons | exact Pick.here _ _ | apply Pick.there))
  have hsn := settleF_succ kept D.W D.S j hlt
  have hxl := looC_len hD _ (List.getElem_mem hlt)
  obtain ⟨hx1, hx2⟩ := hD.w64 _ (List.getElem_mem hlt)
  have hRl := settleF_length kept (D.W.take j) 0 D.S
  have hR64 := settleF_64 kept (D.W.take j) 0 D.S hD.s64 (fun x hx => (hD.w64 x (List.mem_of_mem_take hx)).2)
  generalize settleF kept 0 (D.W.take j) D.S = R at *
  have hRc : ∀ s ∈ R, (secC s).length = 64 := fun s hs => by unfold secC; rw [List.length_map, hR64 s hs]
  refine WC.fact (Ent.some (Ent.own (a := y.2.2.1) (n := D.W.length) (cap := y.2.2.2) (T := 131) (size := 65) (cs := D.W.flatMap looC) MM) (by omega)) ?_
  rintro ⟨bw, offw, hyw⟩
  refine WC.fact (Ent.some (Ent.own (a := y.1) (n := D.S.length) (cap := y.2.1) (T := 129) (size := 64) (cs := R.flatMap secC) MM) (by omega)) ?_
  rintro ⟨bs, offs, hys⟩
  rw [hyw, hys]
  repeat (first | refine GD ?_ | refine NW fun _ => ?_)
  refine WL.step rfl (OP.loadA (l := looC D.W[j]) rfl rfl rfl rfl ((Ent.elMA (looC_len hD) (Ent.own MM) hlt)) hxl rfl rfl ?_)
  generalize D.W[j] = e at *
  obtain ⟨ei, eb⟩ := e
  dsimp only at hsn hx1 hx2
  repeat (first | refine GD ?_ | refine NW fun _ => ?_)
  rename_i x9
  refine WL.step rfl (OP.store (vs := looC (ei, eb)) (M := [blk x9 (looC (ei, eb)) 131, blk p [.slice (some ⟨bs, offs, none⟩) D.S.length y.2.1, .slice (some ⟨bw, offw, none⟩) D.W.length y.2.2.2] 98,
      ownS (some ⟨bs, offs, none⟩) D.S.length y.2.1 129 64 (R.flatMap secC), ownS (some ⟨bw, offw, none⟩) D.W.length y.2.2.2 131 65 (D.W.flatMap looC), K, F]) rfl rfl rfl rfl rfl (allOne_loo _) hxl (UpdM.here (setMany_all (by rw [hxl]; rfl))) rfl ?_)
  repeat (first | refine GD ?_ | refine NW fun _ => ?_)
  refine WL.step rfl (OP.callVRO (vs := [.int .i64 j]) rfl rfl rfl (hf j hlt) (Ent.at hK MM) rfl rfl ?_)
  cases hkj : kept j
  · rw [hkj, if_neg (by simp)] at hsn
    repeat (first | refine GD ?_ | refine NW fun _ => ?_)
    exact ⟨j + 1, by omega, by omega, ⟨rfl, rfl, rfl, rfl, rfl, trivial⟩, by rw [hsn]; exact II⟩
  · rw [hkj, if_pos rfl] at hsn
    repeat (first | refine GD ?_ | refine NW fun _ => ?_)
    have hel : (secC eb).length = 64 := by simp [secC, hx2]
    refine RD 9 10 (_) ?_
    refine WP 0 ?_
    refine WP 1 ?_
    refine WP 2 ?_
    refine VV 3 ?_
    refine WP 4 ?_
    refine VV 5 ?_
    refine WP 6 ?_
    refine VL 7 (.agg (secC eb).toArray) rfl rfl rfl rfl (.inr ⟨rfl, secC eb, rfl, hel, (cut_all (n := 64) (x := .int .i64 ei) (T := 131) MM hel).ent.1⟩) ?_
    refine WP 8 ?_
    refine WH.only 9 rfl rfl (by kernel_rfl) rfl (OP.storeO (vs := secC eb) (i := ei * 64) rfl rfl rfl rfl rfl (allOne_bytes _) hel P1 (flatM_set hRc (k := ei) (by omega) hel) rfl ⟨(fun h => nomatch h), ?_⟩)
    refine DN ?_
    repeat (first | refine GD ?_ | refine NW fun _ => ?_)
    exact ⟨j + 1, by omega, by omega, ⟨rfl, rfl, rfl, rfl, rfl, trivial⟩, by rw [hsn]; exact II⟩
theorem Imp.emp {L : List Assn} : Imp L ((fun _ => True) :: L) := fun h s => ⟨Hp.empty, h, fun _ => .inl rfl, by funext b; simp [Hp.join, Hp.empty], trivial, s⟩
theorem dflush1_ro (j : Int) : RO G 67 [.int .i64 j] (fun _ => True) (.bool true) := by
  refine RO.enter Tryz.func67 rfl (by decide) rfl Tryz.ntmps67 rfl (fun A hu hA => ?_) (fun _ _ _ h => h)
  repeat (first | refine GD ?_ | refine NW fun _ => ?_)
  exact ret1 rfl ⟨rfl, MM⟩
theorem dflush_ok (p : Nat) (D : Dsk) (hD : D.ok) (hw : D.W.length < 1000000) : Triple G 34 [.pointer (some ⟨p, 0, none⟩)] [dsk p D] (fun v M => v = .tuple #[] ∧ M = [dsk p D.flush]) := by
  refine Triple.enter Tryz.func34 rfl (by decide) rfl Tryz.ntmps34 rfl (fun F => ?_)
  repeat (first | refine GO ?_ | refine NW fun _ => ?_)
  refine WL.step rfl (OP.call (pre := [dsk p D, fun _ => True]) rfl rfl (dsettle_ok p D hD hw 67 [] (fun _ => True) (fun _ _ _ h => h) (fun _ => true) (fun j _ => dflush1_ro j)) (Imp.emp.trans PS) rfl rfl ?_)
  rintro _ _ ⟨rfl, rfl⟩
  repeat (first | refine GO ?_ | refine NW fun _ => ?_)
  exact ret0n ⟨_, ⟨rfl, rfl⟩, II⟩
end Go.Proofs.YteednjcoapmkaaaGreatDoor
/- Contracts of functions of the given program, and plain laws on what they compute: parts of the proofs of laws. -/

namespace Go.Proofs.YteednjcoapmkaaaGreatDoor
open Go Go.GL

/-! power ends -/
theorem bit_u64 {t : Int} (h : 0 ≤ t ∧ t ≤ 18446744073709551615) {i : Nat} (hi : i < 64) : (bitsV .and .u64 (shrV .u64 t (i : Int)) 1 = 1) ↔ t.toNat.testBit i = true := by
  obtain ⟨n, rfl⟩ : ∃ n : Nat, t = n := ⟨t.toNat, by omega⟩
  have e : shrV .u64 (n : Int) (i : Int) = ((n / 2 ^ i : Nat) : Int) := by
    unfold shrV
    rw [Int.toNat_natCast, Nat.min_eq_left (by show i ≤ 64; omega), Int.fdiv_eq_ediv_of_nonneg _ (by exact Int.pow_nonneg (by decide)), Int.natCast_ediv, Int.natCast_pow]; rfl
  have hlt : n / 2 ^ i < 2 ^ 64 := Nat.lt_of_le_of_lt (Nat.div_le_self _ _) (by omega)
  rw [e, Int.toNat_natCast, Nat.testBit_eq_decide_div_mod_eq, decide_eq_true_eq]
  generalize n / 2 ^ i = m at *
  have h1 : (BitVec.ofInt 64 (m : Int)).toNat = m := by rw [BitVec.toNat_ofInt]; omega
  have h2 : (BitVec.ofInt 64 (m : Int) &&& BitVec.ofInt 64 1).toNat = m % 2 := by
    rw [BitVec.toNat_and, h1]; exact Nat.and_one_is_mod _
  show IntKind.u64.wrap ((BitVec.ofInt 64 (m : Int) &&& BitVec.ofInt 64 1).toNat : Int) = 1 ↔ _
  rw [h2, wrap_fit (k := .u64) (by unfold Fit; omega)]
  omega
set_option maxRecDepth 10000 in
theorem dcrash1_ro (c : Nat) (keep : Int) (hk : 0 ≤ keep ∧ keep < 18446744073709551616) (j : Nat) : RO G 65 [.int .i64 j, .pointer (some ⟨c, 0, none⟩)] (cellAt c 0 (.int .u64 keep)) (.bool (keeps keep j)) := by
  refine RO.enter Tryz.func65 rfl (by decide) rfl Tryz.ntmps65 rfl (fun A hu hA => ?_) (up_cellAt _ _ _)
  repeat (first | refine GO ?_ | refine NW fun _ => ?_)
  refine WL.step rfl (OP.load1 (v := .int .u64 keep) rfl rfl rfl rfl (Ent.mem MM hu hA) rfl rfl ?_)
  repeat (first | refine GO ?_ | refine NW fun _ => ?_)
  refine ret1 rfl ⟨?_, MM⟩
  have e : (decide (bitsV BinOp.and IntKind.u64 (shrV IntKind.u64 keep ((j : Int) % 64)) 1 = 1)) = keeps keep j := by
    have hb := bit_u64 (t := keep) (by omega) (show j % 64 < 64 by omega)
    rw [show ((j : Int) % 64) = ((j % 64 : Nat) : Int) by omega]
    unfold keeps
    cases hx : keep.toNat.testBit (j % 64)
    · exact decide_eq_false (fun h => by rw [hb.1 h] at hx; cases hx)
    · exact decide_eq_true (hb.2 hx)
  rw [e]
theorem Imp.blkC {b : Nat} {v : Value} {T : TypeId} {L : List Assn} : Imp (blk b [v] T :: L) (cellAt b 0 v :: L) :=
  fun _ s => stars_head_mono (fun h x => (Ent.blk (L := [blk b [v] T]) (List.Mem.head _) rfl) h ⟨h, Hp.empty, fun _ => .inr rfl, by funext b; simp [Hp.join, Hp.empty], x, trivial⟩) s
/-- a power's end: what is loose is kept, or not, as the number's bits tell -/
theorem dcrash_ok (p : Nat) (D : Dsk) (keep : Int) (hk : 0 ≤ keep ∧ keep < 18446744073709551616) (hD : D.ok) (hw : D.W.length < 1000000) : Triple G 21 [.pointer (some ⟨p, 0, none⟩), .int .u64 keep] [dsk p D] (fun v M => v = .tuple #[] ∧ M = [dsk p (D.crash keep)]) := by
  refine Triple.enter Tryz.func21 rfl (by decide) rfl Tryz.ntmps21 rfl (fun F => ?_)
  repeat (first | refine GO ?_ | refine NW fun _ => ?_)
  rename_i c
  refine WL.step rfl (OP.makeF rfl rfl rfl rfl ?_)
  repeat (first | refine GO ?_ | refine NW fun _ => ?_)
  refine WL.step rfl (OP.call (pre := [dsk p D, cellAt c 0 (.int .u64 keep)]) rfl rfl (dsettle_ok p D hD hw 65 [.pointer (some ⟨c, 0, none⟩)] (cellAt c 0 (.int .u64 keep)) (up_cellAt _ _ _) (keeps keep) (fun j _ => dcrash1_ro c keep hk j)) (Imp.blkC.trans PS) rfl rfl ?_)
  rintro _ _ ⟨rfl, rfl⟩
  repeat (first | refine GO ?_ | refine NW fun _ => ?_)
  exact ret0n ⟨_, ⟨rfl, rfl⟩, II⟩
end Go.Proofs.YteednjcoapmkaaaGreatDoor
/- Contracts of functions of the given program, and plain laws on what they compute: parts of the proofs of laws. -/

namespace Go.Proofs.YteednjcoapmkaaaGreatDoor
open Go Go.GL

theorem strC_set {R : List (List UInt8)} {k : Nat} (eb : List UInt8) (h : k < R.length) : setMany (R.map strC) (k * 1) [strC eb] = some ((R.set k eb).map strC) := by
  rw [Nat.mul_one]
  unfold setMany
  rw [setOne_lt _ (by simpa using h)]
  simp only [setMany]
  rw [List.map_set]
set_option maxHeartbeats 2000000 in
set_option maxRecDepth 10000 in
theorem rdflush_ok (p : Nat) (D : Dsk) (hD : D.ok) (hw : D.W.length < 1000000) : Triple G 18 [.pointer (some ⟨p, 0, none⟩)] [rdsk p D] (fun v M => v = .tuple #[] ∧ M = [rdsk p D.flush]) := by
  refine Triple.enter Tryz.func18 rfl (by decide) rfl Tryz.ntmps18 rfl (fun F => ?_)
  have hfl : D.flush = D.settle (fun _ => true) := rfl
  rw [hfl]
  refine WC.open P1 (fun y => ?_)
  unfold rdskL
  dsimp only [List.cons_append, List.nil_append]
  repeat (first | refine GO ?_ | refine NW fun _ => ?_)
  refine WC.loop (σ := Nat) (fun j => j ≤ D.W.length)
    (fun j => [(0, .val (.pointer (some ⟨p, 0, none⟩))), (7, .val (.int .i64 D.W.length)), (8, .val (.int .i64 j))])
    (fun j => [blk p [.slice y.1 D.S.length y.2.1, .slice y.2.2.1 D.W.length y.2.2.2] 63,
      ownS y.1 D.S.length y.2.1 9 1 ((settleF (fun _ => true) 0 (D.W.take j) D.S).map strC), ownS y.2.2.1 D.W.length y.2.2.2 123 2 (D.W.flatMap wrC), F]) (fun j => D.W.length - j) 0 (Nat.zero_le _) ⟨rfl, rfl, rfl, trivial⟩ II ?_
  rintro j hj
  by_cases hlt : j < D.W.length
  rotate_left
  · have hje : j = D.W.length := by omega
    subst hje
    rw [List.take_length]
    repeat (first | refine GD ?_ | refine NW fun _ => ?_)
    refine ret0n ⟨_, ⟨rfl, rfl⟩, (Imp.nilS 123 2).trans (Imp.trans ?_ (rdskFold p (D.settle (fun _ => true)) (y.1, y.2.1, none, 0)))⟩
    unfold Dsk.settle
    dsimp only
    rw [settleF_length]
    exact II
  have hsn := settleF_succ (fun _ => true) D.W D.S j hlt
  obtain ⟨hx1, hx2⟩ := hD.w64 _ (List.getElem_mem hlt)
  have hRl := settleF_length (fun _ => true) (D.W.take j) 0 D.S
  generalize settleF (fun _ => true) 0 (D.W.take j) D.S = R at *
  refine WC.fact (Ent.some (Ent.own (a := y.2.2.1) (n := D.W.length) (cap := y.2.2.2) (T := 123) (size := 2) (cs := D.W.flatMap wrC) MM) (by omega)) ?_
  rintro ⟨bw, offw, hyw⟩
  refine WC.fact (Ent.some (Ent.own (a := y.1) (n := D.S.length) (cap := y.2.1) (T := 9) (size := 1) (cs := R.map strC) MM) (by omega)) ?_
  rintro ⟨bs, offs, hys⟩
  rw [hyw, hys]
  have hel : ∀ {L} (i : Nat) (v : Value), Nat.blt i 2 = true → (wrC D.W[j])[i]? = some v → ownS (some ⟨bw, offw, none⟩) D.W.length y.2.2.2 123 2 (D.W.flatMap wrC) ∈ L → Ent L (cellAt bw (offw + j * 2 + i) v) := fun i v hi hv m => Ent.elF wrC_len (Ent.own m) hlt hi hv
  generalize D.W[j] = e at *
  obtain ⟨ei, eb⟩ := e
  dsimp only at hsn hx1 hx2
  rw [if_pos rfl] at hsn
  repeat (first | refine GD ?_ | refine NW fun _ => ?_)
  refine RD 21 22 (_) ?_
  refine WP 0 ?_
  refine WP 1 ?_
  refine WP 2 ?_
  refine VV 3 ?_
  refine WP 4 ?_
  refine WP 5 ?_
  refine WP 6 ?_
  refine VV 7 ?_
  refine WP 8 ?_
  refine WP 9 ?_
  refine WP 10 ?_
  refine VL 11 (.int .i64 ei) rfl rfl rfl rfl (.inl ⟨rfl, hel 0 _ rfl rfl MM⟩) ?_
  refine WP 12 ?_
  refine WP 13 ?_
  refine WP 14 ?_
  refine VV 15 ?_
  refine WP 16 ?_
  refine WP 17 ?_
  refine WP 18 ?_
  refine VL 19 (.string (ba eb)) rfl rfl rfl rfl (.inl ⟨rfl, hel 1 _ rfl rfl MM⟩) ?_
  refine WP 20 ?_
  refine WH.only 21 rfl rfl (by kernel_rfl) rfl (OP.storeO (vs := [strC eb]) (i := ei * 1) rfl rfl rfl rfl rfl rfl rfl P1 (strC_set eb (by omega)) rfl ⟨(fun h => nomatch h), ?_⟩)
  refine DN ?_
  repeat (first | refine GD ?_ | refine NW fun _ => ?_)
  exact ⟨j + 1, by omega, by omega, ⟨rfl, rfl, rfl, trivial⟩, by rw [hsn]; exact II⟩
theorem rbit_u64 {t : Int} (h : 0 ≤ t ∧ t ≤ 18446744073709551615) {i : Nat} (hi : i < 64) : (shrV .u64 t (i : Int) % 2 = 1) ↔ t.toNat.testBit i = true := by
  obtain ⟨n, rfl⟩ : ∃ n : Nat, t = n := ⟨t.toNat, by omega⟩
  have e : shrV .u64 (n : Int) (i : Int) = ((n / 2 ^ i : Nat) : Int) := by
    unfold shrV
    rw [Int.toNat_natCast, Nat.min_eq_left (by show i ≤ 64; omega), Int.fdiv_eq_ediv_of_nonneg _ (by exact Int.pow_nonneg (by decide)), Int.natCast_ediv, Int.natCast_pow]; rfl
  rw [e, Int.toNat_natCast, Nat.testBit_eq_decide_div_mod_eq, decide_eq_true_eq]
  omega
theorem shr_nn {t : Int} (h : 0 ≤ t) (i : Int) : 0 ≤ shrV .u64 t i := by
  unfold shrV
  rw [Int.fdiv_eq_ediv_of_nonneg _ (by exact Int.pow_nonneg (by decide))]
  exact Int.ediv_nonneg h (by exact Int.pow_nonneg (by decide))
set_option maxHeartbeats 2000000 in
set_option maxRecDepth 10000 in
theorem rdcrash_ok (p : Nat) (D : Dsk) (keep : Int) (hk : 0 ≤ keep ∧ keep < 18446744073709551616) (hD : D.ok) (hw : D.W.length < 1000000) : Triple G 22 [.pointer (some ⟨p, 0, none⟩), .int .u64 keep] [rdsk p D] (fun v M => v = .tuple #[] ∧ M = [rdsk p (D.crash keep)]) := by
  refine Triple.enter Tryz.func22 rfl (by decide) rfl Tryz.ntmps22 rfl (fun F => ?_)
  have hfl : D.crash keep = D.settle (keeps keep) := rfl
  rw [hfl]
  refine WC.open P1 (fun y => ?_)
  unfold rdskL
  dsimp only [List.cons_append, List.nil_append]
  repeat (first | refine GO ?_ | refine NW fun _ => ?_)
  refine WC.loop (σ := Nat) (fun j => j ≤ D.W.length)
    (fun j => [(0, .val (.pointer (some ⟨p, 0, none⟩))), (1, .val (.int .u64 keep)), (9, .val (.int .i64 D.W.length)), (10, .val (.int .i64 j))])
    (fun j => [blk p [.slice y.1 D.S.length y.2.1, .slice y.2.2.1 D.W.length y.2.2.2] 63,
      ownS y.1 D.S.length y.2.1 9 1 ((settleF (keeps keep) 0 (D.W.take j) D.S).map strC), ownS y.2.2.1 D.W.length y.2.2.2 123 2 (D.W.flatMap wrC), F]) (fun j => D.W.length - j) 0 (Nat.zero_le _) ⟨rfl, rfl, rfl, rfl, trivial⟩ II ?_
  rintro j hj
  by_cases hlt : j < D.W.length
  rotate_left
  · have hje : j = D.W.length := by omega
    subst hje
    rw [List.take_length]
    repeat (first | refine GD ?_ | refine NW fun _ => ?_)
    refine ret0n ⟨_, ⟨rfl, rfl⟩, (Imp.nilS 123 2).trans (Imp.trans ?_ (rdskFold p (D.settle (keeps keep)) (y.1, y.2.1, none, 0)))⟩
    unfold Dsk.settle
    dsimp only
    rw [settleF_length]
    exact II
  have hsn := settleF_succ (keeps keep) D.W D.S j hlt
  obtain ⟨hx1, hx2⟩ := hD.w64 _ (List.getElem_mem hlt)
  have hRl := settleF_length (keeps keep) (D.W.take j) 0 D.S
  generalize settleF (keeps keep) 0 (D.W.take j) D.S = R at *
  refine WC.fact (Ent.some (Ent.own (a := y.2.2.1) (n := D.W.length) (cap := y.2.2.2) (T := 123) (size := 2) (cs := D.W.flatMap wrC) MM) (by omega)) ?_
  rintro ⟨bw, offw, hyw⟩
  refine WC.fact (Ent.some (Ent.own (a := y.1) (n := D.S.length) (cap := y.2.1) (T := 9) (size := 1) (cs := R.map strC) MM) (by omega)) ?_
  rintro ⟨bs, offs, hys⟩
  rw [hyw, hys]
  have hel : ∀ {L} (i : Nat) (v : Value), Nat.blt i 2 = true → (wrC D.W[j])[i]? = some v → ownS (some ⟨bw, offw, none⟩) D.W.length y.2.2.2 123 2 (D.W.flatMap wrC) ∈ L → Ent L (cellAt bw (offw + j * 2 + i) v) := fun i v hi hv m => Ent.elF wrC_len (Ent.own m) hlt hi hv
  generalize D.W[j] = e at *
  obtain ⟨ei, eb⟩ := e
  dsimp only at hsn hx1 hx2
  have hb := rbit_u64 (t := keep) (by omega) (show j % 64 < 64 by omega)
  have hj64 : ((j : Int) % 64) = ((j % 64 : Nat) : Int) := by omega
  rw [← hj64] at hb
  have hs0 := shr_nn hk.1 ((j : Int) % 64)
  cases hkj : keeps keep j
  · rw [hkj, if_neg (by simp)] at hsn
    have hb' : ¬ shrV .u64 keep ((j : Int) % 64) % 2 = 1 := fun h => by
      have := hb.1 h
      unfold keeps at hkj
      rw [this] at hkj; cases hkj
    repeat (first | refine GD ?_ | refine NW fun _ => ?_)
    exact ⟨j + 1, by omega, by omega, ⟨rfl, rfl, rfl, rfl, trivial⟩, by rw [hsn]; exact II⟩
  · rw [hkj, if_pos rfl] at hsn
    have hb' : shrV .u64 keep ((j : Int) % 64) % 2 = 1 := hb.2 hkj
    repeat (first | refine GD ?_ | refine NW fun _ => ?_)
    refine RD 21 22 (_) ?_
    refine WP 0 ?_
    refine WP 1 ?_
    refine WP 2 ?_
    refine VV 3 ?_
    refine WP 4 ?_
    refine WP 5 ?_
    refine WP 6 ?_
    refine VV 7 ?_
    refine WP 8 ?_
    refine WP 9 ?_
    refine WP 10 ?_
    refine VL 11 (.int .i64 ei) rfl rfl rfl rfl (.inl ⟨rfl, hel 0 _ rfl rfl MM⟩) ?_
    refine WP 12 ?_
    refine WP 13 ?_
    refine WP 14 ?_
    refine VV 15 ?_
    refine WP 16 ?_
    refine WP 17 ?_
    refine WP 18 ?_
    refine VL 19 (.string (ba eb)) rfl rfl rfl rfl (.inl ⟨rfl, hel 1 _ rfl rfl MM⟩) ?_
    refine WP 20 ?_
    refine WH.only 21 rfl rfl (by kernel_rfl) rfl (OP.storeO (vs := [strC eb]) (i := ei * 1) rfl rfl rfl rfl rfl rfl rfl P1 (strC_set eb (by omega)) rfl ⟨(fun h => nomatch h), ?_⟩)
    refine DN ?_
    repeat (first | refine GD ?_ | refine NW fun _ => ?_)
    exact ⟨j + 1, by omega, by omega, ⟨rfl, rfl, rfl, rfl, trivial⟩, by rw [hsn]; exact II⟩
end Go.Proofs.YteednjcoapmkaaaGreatDoor
/- Contracts of functions of the given program, and plain laws on what they compute: parts of the proofs of laws. -/

namespace Go.Proofs.YteednjcoapmkaaaGreatDoor
open Go Go.GL

theorem ba_app (l m : List UInt8) : ba l ++ ba m = ba (l ++ m) := by
  apply ByteArray.ext
  simp [ba]
theorem ba_appD (l : List UInt8) (s : ByteArray) : ba l ++ s = ba (l ++ s.data.toList) := by rw [← ba_app, ba_data]
/-- one bit of the check, bit by bit -/
def bitS (c : W32) : W32 := (c >>> 1) ^^^ (bif c.getLsbD 0 then 2197175160#32 else 0#32)
theorem bitS_xor (a b : W32) : bitS (a ^^^ b) = bitS a ^^^ bitS b := by
  unfold bitS
  rw [BitVec.ushiftRight_xor_distrib, BitVec.getLsbD_xor]
  generalize a >>> 1 = x
  generalize b >>> 1 = y
  cases a.getLsbD 0 <;> cases b.getLsbD 0
  · simp
  · simp only [Bool.false_bne, cond_true, cond_false, BitVec.xor_zero]; ac_rfl
  · simp only [Bool.bne_false, cond_true, cond_false, BitVec.xor_zero]; ac_rfl
  · show x ^^^ y ^^^ 0#32 = _
    rw [BitVec.xor_zero]
    show x ^^^ y = x ^^^ 2197175160#32 ^^^ (y ^^^ 2197175160#32)
    rw [show x ^^^ 2197175160#32 ^^^ (y ^^^ 2197175160#32) = x ^^^ y ^^^ (2197175160#32 ^^^ 2197175160#32) by ac_rfl, BitVec.xor_self, BitVec.xor_zero]
theorem bitS_even (c : W32) (h : c.getLsbD 0 = false) : bitS c = c >>> 1 := by unfold bitS; rw [h]; simp
def bits4 (c : W32) : W32 := bitS (bitS (bitS (bitS c)))
theorem bits4_xor (a b : W32) : bits4 (a ^^^ b) = bits4 a ^^^ bits4 b := by unfold bits4; simp only [bitS_xor]
theorem low_shr (c : W32) (n k : Nat) (h : c.getLsbD (n + k) = false) : (c >>> n).getLsbD k = false := by rw [BitVec.getLsbD_ushiftRight]; exact h
theorem bits4_hi (c : W32) (h : ∀ i, i < 4 → c.getLsbD i = false) : bits4 c = c >>> 4 := by
  unfold bits4
  rw [bitS_even c (h 0 (by decide)), bitS_even (c >>> 1) (low_shr c 1 0 (h 1 (by decide))), ← BitVec.shiftRight_add, bitS_even (c >>> (1 + 1)) (low_shr c 2 0 (h 2 (by decide))), ← BitVec.shiftRight_add,
    bitS_even (c >>> (1 + 1 + 1)) (low_shr c 3 0 (h 3 (by decide))), ← BitVec.shiftRight_add]
set_option maxRecDepth 10000 in
theorem bits4_low : ∀ k : Fin 16, bits4 (BitVec.ofNat 32 k.val) = tbl.getD k.val 0 := by decide
theorem low4 : ∀ i, i < 32 → (15#32 : W32).getLsbD i = decide (i < 4) := by decide
theorem half_bits (c : W32) : half c = bits4 c := by
  have e : c = (c &&& ~~~15#32) ^^^ (c &&& 15#32) := by
    apply BitVec.eq_of_getLsbD_eq
    intro i hi
    simp only [BitVec.getLsbD_xor, BitVec.getLsbD_and, BitVec.getLsbD_not, hi, low4 i hi]
    cases c.getLsbD i <;> cases decide (i < 4) <;> rfl
  have hlow : (c &&& 15#32).toNat < 16 := by rw [BitVec.toNat_and]; exact Nat.lt_of_le_of_lt Nat.and_le_right (by decide)
  have e1 : bits4 (c &&& 15#32) = tbl.getD (c &&& 15#32).toNat 0 := by
    have := bits4_low ⟨(c &&& 15#32).toNat, hlow⟩
    simp only [BitVec.ofNat_toNat, BitVec.setWidth_eq] at this
    exact this
  have e2 : bits4 (c &&& ~~~15#32) = c >>> 4 := by
    rw [bits4_hi]
    · apply BitVec.eq_of_getLsbD_eq
      intro i hi
      simp only [BitVec.getLsbD_ushiftRight, BitVec.getLsbD_and, BitVec.getLsbD_not]
      by_cases h : 4 + i < 32
      · rw [low4 (4 + i) h, decide_eq_false (show ¬ 4 + i < 4 by omega), decide_eq_true h]
        simp
      · rw [BitVec.getLsbD_of_ge _ _ (show 32 ≤ 4 + i by omega)]
        simp
    · intro i hi
      simp only [BitVec.getLsbD_and, BitVec.getLsbD_not, low4 i (by omega)]
      simp [hi]
  conv => rhs; rw [e, bits4_xor, e1, e2]
  rfl
/-- so many bits of the check -/
def bitN : Nat → W32 → W32
  | 0, c => c
  | n + 1, c => bitS (bitN n c)
theorem bit8 (c : W32) : bitN 8 c = half (half c) := by rw [half_bits, half_bits]; rfl
theorem bitS_int (c : W32) : ((bitS c).toNat : Int) = if (c.toNat : Int) % 2 = 1 then bitsV .xor .u32 ((c.toNat : Int) / 2) 2197175160 else (c.toNat : Int) / 2 := by
  have h1 : (c.toNat : Int) / (2 : Int) = ((c >>> 1).toNat : Int) := by rw [BitVec.toNat_ushiftRight, Nat.shiftRight_eq_div_pow]; omega
  have h2 := xor_u32 (c >>> 1) 2197175160#32
  rw [show (((2197175160#32 : W32).toNat : Nat) : Int) = 2197175160 from rfl] at h2
  rw [h1, h2]
  have h3 : c.getLsbD 0 = decide (c.toNat % 2 = 1) := by rw [← BitVec.testBit_toNat, Nat.testBit_zero]
  unfold bitS
  rw [h3]
  by_cases h : c.toNat % 2 = 1
  · rw [if_pos (by omega), decide_eq_true h]; rfl
  · rw [if_neg (by omega), decide_eq_false h]; simp
theorem byteAt_ba (l : List UInt8) (k : Nat) (h : k < l.length) : byteAt (ba l) k = (l[k].toNat : Int) := by
  unfold byteAt ba
  simp [h]

set_option maxHeartbeats 2000000 in
set_option maxRecDepth 10000 in
theorem qof_ro (l : List UInt8) (hs : l.length < 1000000) : RO G 121 [.string (ba l)] (fun _ => True) (u32V (crc l)) := by
  refine RO.enter Tryz.func121 rfl (by decide) rfl Tryz.ntmps121 rfl (fun A hu hA => ?_) (fun _ _ _ h => h)
  have hsz := ba_size l
  repeat (first | refine GO ?_ | refine NW fun _ => ?_)
  refine WC.loop (σ := Nat) (fun k => k ≤ l.length)
    (fun k => [(0, .val (.string (ba l))), (3, .val (.int .u32 ((crcF (BitVec.allOnes 32) (l.take k)).toNat : Int))), (4, .val (.int .i64 k))])
    (fun k => [A]) (fun k => l.length - k) 0 (Nat.zero_le _) ⟨rfl, rfl, rfl, trivial⟩ (Imp.refl _) ?_
  rintro k hk
  by_cases hlt : k < l.length
  rotate_left
  · have : l.take k = l := List.take_of_length_le (by omega)
    rw [this]
    have hn : (4294967295 : Int) - ((crcF (BitVec.allOnes 32) l).toNat : Int) = ((crc l).toNat : Int) := by
      unfold crc
      rw [BitVec.toNat_not]
      have := (crcF (BitVec.allOnes 32) l).isLt
      omega
    have hlt32 := (crcF (BitVec.allOnes 32) l).isLt
    generalize crcF (BitVec.allOnes 32) l = c at *
    repeat (first | refine GD ?_ | refine NW fun _ => ?_)
    rw [hn]
    exact ret1 rfl ⟨rfl, MM⟩
  have hsn : crcF (BitVec.allOnes 32) (l.take (k + 1)) = crcStep (crcF (BitVec.allOnes 32) (l.take k)) l[k] := by
    unfold crcF
    rw [List.take_succ_eq_append_getElem hlt, List.foldl_append]
    rfl
  have hby := byteAt_ba l k hlt
  generalize l[k] = x at *
  have hx8 : x.toNat < 256 := x.toNat_lt
  generalize crcF (BitVec.allOnes 32) (l.take k) = c at *
  have hby0 : 0 ≤ byteAt (ba l) k := by omega
  have hby1 : byteAt (ba l) k < 256 := by omega
  repeat (first | refine GD ?_ | refine NW fun _ => ?_)
  have hx := xor_u32 c (BitVec.ofNat 32 x.toNat)
  have hb : ((BitVec.ofNat 32 x.toNat).toNat : Int) = x.toNat := by rw [BitVec.toNat_ofNat]; omega
  rw [hb] at hx
  rw [hby, hx]
  refine WC.loop (σ := Nat) (fun j => j ≤ 8)
    (fun j => [(0, .val (.string (ba l))), (3, .val (.int .u32 ((bitN j (c ^^^ BitVec.ofNat 32 x.toNat)).toNat : Int))), (4, .val (.int .i64 k)), (5, .val (.int .i64 j))])
    (fun _ => [A]) (fun j => 8 - j) 0 (Nat.zero_le _) ⟨rfl, rfl, rfl, rfl, trivial⟩ (Imp.refl _) ?_
  rintro j hj
  by_cases hlt8 : j < 8
  rotate_left
  · have hj8 : j = 8 := by omega
    subst hj8
    rw [bit8]
    repeat (first | refine GD ?_ | refine NW fun _ => ?_)
    exact ⟨k + 1, by omega, by omega, ⟨rfl, by rw [hsn]; rfl, rfl, trivial⟩, Imp.refl _⟩
  have hbi := bitS_int (bitN j (c ^^^ BitVec.ofNat 32 x.toNat))
  have hbn : bitN (j + 1) (c ^^^ BitVec.ofNat 32 x.toNat) = bitS (bitN j (c ^^^ BitVec.ofNat 32 x.toNat)) := rfl
  rw [← hbn] at hbi
  have hlt32 := (bitN j (c ^^^ BitVec.ofNat 32 x.toNat)).isLt
  generalize bitN j (c ^^^ BitVec.ofNat 32 x.toNat) = d at *
  by_cases hodd : (d.toNat : Int) % 2 = 1
  · rw [if_pos hodd] at hbi
    repeat (first | refine GD ?_ | refine NW fun _ => ?_)
    exact ⟨j + 1, by omega, by omega, ⟨rfl, by rw [hbi]; rfl, rfl, rfl, trivial⟩, Imp.refl _⟩
  · rw [if_neg hodd] at hbi
    repeat (first | refine GD ?_ | refine NW fun _ => ?_)
    exact ⟨j + 1, by omega, by omega, ⟨rfl, by rw [hbi]; rfl, rfl, rfl, trivial⟩, Imp.refl _⟩
set_option maxHeartbeats 1000000 in
set_option maxRecDepth 10000 in
theorem qseal_ro (l : List UInt8) (hs : l.length < 100000) : RO G 110 [.string (ba l)] (fun _ => True) (.string (ba (l ++ tailM l))) := by
  refine RO.enter Tryz.func110 rfl (by decide) rfl Tryz.ntmps110 rfl (fun A hu hA => ?_) (fun _ _ _ h => h)
  have hsz := ba_size l
  repeat (first | refine GO ?_ | refine NW fun _ => ?_)
  refine WL.step rfl (OP.callRO rfl rfl (qof_ro l (by omega)) (fun _ _ => trivial) rfl rfl ?_)
  have hlt32 := (crc l).isLt
  unfold tailM
  generalize crc l = c at *
  unfold u32V
  have b0 : Value.int .u8 ((c.toNat : Int) % 256) = byteV (UInt8.ofNat (c.toNat % 256)) := by
    unfold byteV; congr 1; rw [UInt8.toNat_ofNat']; omega
  have b1 : Value.int .u8 ((c.toNat : Int) / 256 % 256) = byteV (UInt8.ofNat ((c >>> 8).toNat % 256)) := by
    unfold byteV; congr 1; rw [UInt8.toNat_ofNat', BitVec.toNat_ushiftRight, Nat.shiftRight_eq_div_pow]; omega
  have b2 : Value.int .u8 ((c.toNat : Int) / 65536 % 256) = byteV (UInt8.ofNat ((c >>> 16).toNat % 256)) := by
    unfold byteV; congr 1; rw [UInt8.toNat_ofNat', BitVec.toNat_ushiftRight, Nat.shiftRight_eq_div_pow]; omega
  have b3 : Value.int .u8 ((c.toNat : Int) / 16777216) = byteV (UInt8.ofNat ((c >>> 24).toNat % 256)) := by
    unfold byteV; congr 1; rw [UInt8.toNat_ofNat', BitVec.toNat_ushiftRight, Nat.shiftRight_eq_div_pow]; omega
  repeat (first | refine GD ?_ | refine NW fun _ => ?_)
  rw [b0, b1, b2, b3]
  refine WL.step rfl (OP.toStr (sv := ba (le4 c)) rfl rfl rfl rfl rfl rfl rfl rfl (by rw [strCells_ba]; exact Ent.own (T := 5) MM) rfl rfl ?_)
  have hs4 : (ba (le4 c)).size = 4 := rfl
  repeat (first | refine GD ?_ | refine NW fun _ => ?_)
  rw [ba_app]
  exact ret1 rfl ⟨rfl, MM⟩
set_option maxHeartbeats 1000000 in
set_option maxRecDepth 10000 in
theorem qsector_ro (l : List UInt8) (hs : l.length ≤ 60) : RO G 105 [.string (ba l)] (fun _ => True) (.tuple #[.string (ba (sectorM l)), .bool true]) := by
  refine RO.enter Tryz.func105 rfl (by decide) rfl Tryz.ntmps105 rfl (fun A hu hA => ?_) (fun _ _ _ h => h)
  have hsz := ba_size l
  repeat (first | refine GD ?_ | refine NW fun _ => ?_)
  refine WC.loop (σ := Nat) (fun k => l.length + k ≤ 60)
    (fun k => [(0, .val (.string (ba (l ++ List.replicate k 0))))])
    (fun _ => [A]) (fun k => 60 - k) 0 (by omega) ⟨by simp; rfl, trivial⟩ (Imp.refl _) ?_
  rintro k hk
  have hsz := ba_size (l ++ List.replicate k 0)
  rw [List.length_append, List.length_replicate] at hsz
  by_cases h60 : l.length + k < 60
  · have hz1 : (⟨#[0]⟩ : ByteArray).size = 1 := rfl
    repeat (first | refine GD ?_ | refine NW fun _ => ?_)
    refine ⟨k + 1, by omega, by omega, ⟨?_, trivial⟩, Imp.refl _⟩
    rw [List.replicate_succ', ← List.append_assoc, ← ba_app]
    rfl
  · have hp : l ++ List.replicate k 0 = padM l := by unfold padM; rw [show 60 - l.length = k by omega]
    rw [hp] at hsz ⊢
    have hpl := padM_len hs
    repeat (first | refine GD ?_ | refine NW fun _ => ?_)
    refine WL.step rfl (OP.callRO rfl rfl (qseal_ro (padM l) (by omega)) (fun _ _ => trivial) rfl rfl ?_)
    repeat (first | refine GD ?_ | refine NW fun _ => ?_)
    exact ret2 rfl rfl ⟨rfl, MM⟩
end Go.Proofs.YteednjcoapmkaaaGreatDoor
