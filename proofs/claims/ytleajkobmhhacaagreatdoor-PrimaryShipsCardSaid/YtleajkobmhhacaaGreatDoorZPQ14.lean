/- Contracts of functions of the given program, and plain laws: parts of the proofs of laws. -/
import Derived.Test.YtleajkobmhhacaaGreatDoorZPQ4
import Derived.Test.YtleajkobmhhacaaGreatDoorZPQ13
import Derived.Test.YtleajkobmhhacaaGreatDoorZPQ12
import Derived.Test.YtleajkobmhhacaaGreatDoorZPQ11
import Derived.Test.YtleajkobmhhacaaGreatDoorZPQ3
import Derived.Test.YtleajkobmhhacaaGreatDoorZPQ6
import Derived.Test.YtleajkobmhhacaaGreatDoorZPQ9
/- Contracts of functions of the given program, and plain laws on what they compute: parts of the proofs of laws. -/

namespace Go.Proofs.YtleajkobmhhacaaGreatDoor
open Go Go.GL

/-! a primary: writes that waited pass -/
abbrev dnT : TypeId := 101
def encDn (d : Dn) : List Value := [.int .i64 d.1, .int .i64 d.2.1, .int .i64 d.2.2]
theorem encDn_len (d : Dn) : (encDn d).length = 3 := rfl
def DonesA (l : List Dn) (v : Value) (E : List Assn) : Prop := ∃ a cap, v = .slice a l.length cap ∧ E = [ownS a l.length cap dnT 3 (l.flatMap encDn)]
set_option maxHeartbeats 16000000 in
set_option maxRecDepth 10000 in
theorem plet_ok (p q : Nat) (P : Pri) (B : Int) (now : Int) (a : Option Addr) (cap : Nat) (l : List Call) (I : PInv P B) (hB : B + 2 * l.length + 4 ≤ widest) (hl : ∀ c ∈ l, RightC c) (hl4 : l.length ≤ 4) (V : Assn) (hV : Up V) (hT : ∀ h, V h → ErrT h) :
    Triple G 120 [.pointer (some ⟨p, 0, none⟩), .slice a l.length cap, .int .i64 now] [ownS a l.length cap caT 3 (l.flatMap encCa), priA p q P, dsk q P.D, V]
      (fun v M => ∃ E, DonesA (letP P now l).1 v E ∧ M = E ++ [priA p q (letP P now l).2, dsk q (letP P now l).2.D, V]) := by
  refine Triple.enter Tryz.func120 rfl (by decide) rfl Tryz.ntmps120 rfl (fun F => ?_)
  have hce : ∀ {L} {ch : Chain} {cd : Int}, chainR ch cd ∈ L → V ∈ L → Ent L (chainE ch cd) := fun m1 m2 => Ent.and (Ent.mem m2 hV hT) (Ent.mem m1 (up_chainR _ _) (fun _ x => x))
  repeat (first | refine GD ?_ | refine NW fun _ => ?_)
  refine WC.imp (Imp.nilS dnT 3) ?_
  refine WC.loop (σ := Nat × Option Addr × Nat) (fun s => s.1 ≤ l.length)
    (fun s => [(0, .val (.pointer (some ⟨p, 0, none⟩))), (2, .val (.int .i64 now)), (7, .val (.slice s.2.1 s.1 s.2.2)), (14, .val (.slice a l.length cap)), (15, .val (.int .i64 l.length)), (16, .val (.int .i64 s.1))])
    (fun s => [ownS s.2.1 s.1 s.2.2 dnT 3 ((letP P now (l.take s.1)).1.flatMap encDn), ownS a l.length cap caT 3 (l.flatMap encCa), priA p q (letP P now (l.take s.1)).2, dsk q (letP P now (l.take s.1)).2.D, V, F]) (fun s => l.length - s.1)
    (0, none, 0) (Nat.zero_le _) ⟨rfl, rfl, rfl, rfl, rfl, rfl, trivial⟩ (Imp.trans (Imp.refl _) II) ?_
  rintro ⟨k, ar, cr⟩ hk
  dsimp only at hk ⊢
  by_cases hlt : k < l.length
  rotate_left
  · have he : k = l.length := by omega
    subst he
    rw [List.take_length]
    repeat (first | refine GD ?_ | refine NW fun _ => ?_)
    have hln := letP_len P now l
    refine ret1 rfl ⟨_, ⟨_, ⟨ar, cr, by rw [hln], rfl⟩, rfl⟩, ?_⟩
    rw [hln]
    exact II
  obtain ⟨I1, K1⟩ := I.letK (now := now) (by omega) hl k hk
  have hln : (letP P now (l.take k)).1.length = k := by rw [letP_len, List.length_take]; omega
  have hsn : letP P now (l.take (k + 1)) = ((letP P now (l.take k)).1 ++ [(let1 (letP P now (l.take k)).2 l[k] now).1], (let1 (letP P now (l.take k)).2 l[k] now).2) := by
    rw [← List.take_append_getElem hlt, letP_snoc]
  have hrc := hl _ (List.getElem_mem hlt)
  generalize letP P now (l.take k) = st at *
  obtain ⟨ds, Pa⟩ := st
  dsimp only at I1 K1 hln hsn ⊢
  refine WC.fact (Ent.some (Ent.own (a := a) (n := l.length) (cap := cap) (T := caT) (size := 3) (cs := l.flatMap encCa) MM) (by omega)) ?_
  rintro ⟨b, off, rfl⟩
  refine WC.open (M := [ownS ar k cr dnT 3 (ds.flatMap encDn), ownS (some ⟨b, off, none⟩) l.length cap caT 3 (l.flatMap encCa), dsk q Pa.D, V, F]) (Ls := priL p q Pa) II (fun x => ?_)
  obtain ⟨v, g, s⟩ := x
  have hfold := fun (N : List Assn) => priFold p q (Pa.at_ now) v g s (N := N)
  have hck := lcheck_ok s Pa.S Pa.S.epoch now
  unfold priL
  dsimp only [List.cons_append, List.nil_append]
  unfold pndC at *
  repeat (first | refine GD ?_ | refine NW fun _ => ?_)
  refine WL.step rfl (OP.loadA (l := encCa l[k]) rfl rfl rfl rfl (Ent.elA (f := encCa) encCa_len (Ent.own (T := caT) MM) hlt) rfl rfl rfl ?_)
  generalize l[k] = c at *
  have hdef : let1 Pa c now = match checkS Pa.S Pa.S.epoch now with
    | some k => ((c.1, 0, k), Pa.at_ now)
    | none => match doP (Pa.at_ now) c with
      | .error (_, k) => ((c.1, 0, k), Pa.at_ now)
      | .ok (k, P') => ((c.1, k, 0), P') := rfl
  have hdo := pdo_ok p q (Pa.at_ now) (B + 2 * k) (I1.at_ now) (by omega) c hrc
  have hdne := fun l k h => doP_ne (now := now) I1 (by omega) hrc (l := l) (k := k) h
  unfold DoPost at hdo
  obtain ⟨id, block, data⟩ := c
  rw [show encCa (id, block, data) = [.int .i64 id, .int .i64 block, .string data] from rfl] at *
  dsimp only at hdef
  repeat (first | refine GD ?_ | refine NW fun _ => ?_)
  rename_i cb
  refine WL.step rfl (OP.callRO rfl rfl (lepoch_ro s Pa.S) (Ent.at (up_siteA _ _) MM) rfl rfl ?_)
  repeat (first | refine GD ?_ | refine NW fun _ => ?_)
  refine WL.step rfl (OP.call (pre := [siteA s Pa.S]) rfl rfl hck PS rfl rfl ?_)
  rintro er _ ⟨E, hE, rfl⟩
  cases hk : checkS Pa.S Pa.S.epoch now with
  | some kc =>
    rw [hk] at hE hdef
    obtain ⟨y, ch, hc1, rfl, rfl⟩ := isEr_hd hE (by simp)
    have hcc := codeC (y :: ch) kc
    dsimp only [valOf, List.cons_append, List.nil_append] at hcc hdef ⊢
    repeat (first | refine GD ?_ | refine NW fun _ => ?_)
    refine WC.imp (M := [chainR (y :: ch) kc, blk cb [.int .i64 id, .int .i64 block, .string data] caT, ownS ar k cr dnT 3 (ds.flatMap encDn), ownS (some ⟨b, off, none⟩) l.length cap caT 3 (l.flatMap encCa), priA p q (Pa.at_ now), dsk q Pa.D, V, F]) (Imp.trans II (Imp.trans (hfold [chainR (y :: ch) kc, blk cb [.int .i64 id, .int .i64 block, .string data] caT, ownS ar k cr dnT 3 (ds.flatMap encDn), ownS (some ⟨b, off, none⟩) l.length cap caT 3 (l.flatMap encCa), dsk q Pa.D, V, F]) II)) ?_
    refine RD 8 10 (_) ?_
    refine WP 0 ?_
    refine WP 1 ?_
    refine VV 2 ?_
    refine WP 3 ?_
    refine WP 4 ?_
    refine WH.only 5 rfl rfl (by kernel_rfl) rfl (OP.callRO rfl rfl (hcc) (hce MM MM) rfl rfl ⟨fun _ => II, ?_⟩)
    refine WH.only 6 rfl rfl (by kernel_rfl) rfl (OP.buildT rfl rfl rfl rfl ⟨fun _ => II, ?_⟩)
    refine WH.only 7 rfl rfl (by kernel_rfl) rfl (OP.sliceLit (c := encDn (id, 0, kc)) rfl rfl rfl rfl rfl rfl rfl rfl (fun b2 => ⟨fun _ => II, ?_⟩))
    refine WH.only 8 rfl rfl (by kernel_rfl) rfl (OP.append rfl rfl rfl rfl rfl rfl rfl rfl rfl P1 (Ent.own MM) rfl (by omega) (by omega) rfl rfl (fun a' cap' => ⟨(fun h => nomatch h), ?_⟩))
    refine WP 9 ?_
    refine DN ?_
    repeat (first | refine GD ?_ | refine NW fun _ => ?_)
    refine ⟨(k + 1, a', cap'), hlt, by dsimp only; omega, ⟨rfl, rfl, rfl, rfl, rfl, rfl, trivial⟩, ?_⟩
    dsimp only
    rw [hsn, hdef]
    dsimp only
    rw [List.flatMap_append, List.flatMap_cons, List.flatMap_nil, List.append_nil]
    exact II
  | none =>
    rw [hk] at hE hdef
    obtain ⟨rfl, rfl⟩ := hE
    dsimp only [List.nil_append] at hdef ⊢
    repeat (first | refine GD ?_ | refine NW fun _ => ?_)
    refine WL.imp (M := [blk cb [.int .i64 id, .int .i64 block, .string data] caT, ownS ar k cr dnT 3 (ds.flatMap encDn), ownS (some ⟨b, off, none⟩) l.length cap caT 3 (l.flatMap encCa), priA p q (Pa.at_ now), dsk q Pa.D, V, F]) (Imp.trans II (Imp.trans (hfold [blk cb [.int .i64 id, .int .i64 block, .string data] caT, ownS ar k cr dnT 3 (ds.flatMap encDn), ownS (some ⟨b, off, none⟩) l.length cap caT 3 (l.flatMap encCa), dsk q Pa.D, V, F]) II)) ?_
    cases hq : doP (Pa.at_ now) (id, block, data) with
    | error lc =>
      obtain ⟨le, kc⟩ := lc
      rw [hq] at hdo hdef
      dsimp only at hdo hdef
      refine WL.step rfl (OP.call (pre := [priA p q (Pa.at_ now), dsk q Pa.D]) rfl rfl hdo PS rfl rfl ?_)
      rintro _ _ ⟨e', E, hE, rfl, rfl⟩
      obtain ⟨ch, hc1, rfl, rfl⟩ := hE
      have hcc := codeC ch kc
      cases ch with
      | nil =>
        dsimp only [valOf, List.cons_append, List.nil_append] at hcc ⊢
        repeat (first | refine GD ?_ | refine NW fun _ => ?_)
        refine RD 8 10 (_) ?_
        refine WP 0 ?_
        refine WP 1 ?_
        refine VV 2 ?_
        refine WP 3 ?_
        refine WP 4 ?_
        refine WH.only 5 rfl rfl (by kernel_rfl) rfl (OP.callRO rfl rfl (hcc) (hce MM MM) rfl rfl ⟨fun _ => II, ?_⟩)
        refine WH.only 6 rfl rfl (by kernel_rfl) rfl (OP.buildT rfl rfl rfl rfl ⟨fun _ => II, ?_⟩)
        refine WH.only 7 rfl rfl (by kernel_rfl) rfl (OP.sliceLit (c := encDn (id, 0, kc)) rfl rfl rfl rfl rfl rfl rfl rfl (fun b2 => ⟨fun _ => II, ?_⟩))
        refine WH.only 8 rfl rfl (by kernel_rfl) rfl (OP.append rfl rfl rfl rfl rfl rfl rfl rfl rfl P1 (Ent.own MM) rfl (by omega) (by omega) rfl rfl (fun a' cap' => ⟨(fun h => nomatch h), ?_⟩))
        refine WP 9 ?_
        refine DN ?_
        repeat (first | refine GD ?_ | refine NW fun _ => ?_)
        refine ⟨(k + 1, a', cap'), hlt, by dsimp only; omega, ⟨rfl, rfl, rfl, rfl, rfl, rfl, trivial⟩, ?_⟩
        dsimp only
        rw [hsn, hdef]
        dsimp only
        rw [List.flatMap_append, List.flatMap_cons, List.flatMap_nil, List.append_nil]
        exact II
      | cons y ch =>
        dsimp only [valOf, List.cons_append, List.nil_append] at hcc ⊢
        repeat (first | refine GD ?_ | refine NW fun _ => ?_)
        refine RD 8 10 (_) ?_
        refine WP 0 ?_
        refine WP 1 ?_
        refine VV 2 ?_
        refine WP 3 ?_
        refine WP 4 ?_
        refine WH.only 5 rfl rfl (by kernel_rfl) rfl (OP.callRO rfl rfl (hcc) (hce MM MM) rfl rfl ⟨fun _ => II, ?_⟩)
        refine WH.only 6 rfl rfl (by kernel_rfl) rfl (OP.buildT rfl rfl rfl rfl ⟨fun _ => II, ?_⟩)
        refine WH.only 7 rfl rfl (by kernel_rfl) rfl (OP.sliceLit (c := encDn (id, 0, kc)) rfl rfl rfl rfl rfl rfl rfl rfl (fun b2 => ⟨fun _ => II, ?_⟩))
        refine WH.only 8 rfl rfl (by kernel_rfl) rfl (OP.append rfl rfl rfl rfl rfl rfl rfl rfl rfl P1 (Ent.own MM) rfl (by omega) (by omega) rfl rfl (fun a' cap' => ⟨(fun h => nomatch h), ?_⟩))
        refine WP 9 ?_
        refine DN ?_
        repeat (first | refine GD ?_ | refine NW fun _ => ?_)
        refine ⟨(k + 1, a', cap'), hlt, by dsimp only; omega, ⟨rfl, rfl, rfl, rfl, rfl, rfl, trivial⟩, ?_⟩
        dsimp only
        rw [hsn, hdef]
        dsimp only
        rw [List.flatMap_append, List.flatMap_cons, List.flatMap_nil, List.append_nil]
        exact II
    | ok y =>
      obtain ⟨kn, Pb⟩ := y
      rw [hq] at hdo hdef
      dsimp only at hdo hdef
      refine WL.step rfl (OP.call (pre := [priA p q (Pa.at_ now), dsk q Pa.D]) rfl rfl hdo PS rfl rfl ?_)
      rintro _ _ ⟨rfl, rfl⟩
      dsimp only [List.cons_append, List.nil_append]
      repeat (first | refine GD ?_ | refine NW fun _ => ?_)
      refine RD 8 10 (_) ?_
      refine WP 0 ?_
      refine WP 1 ?_
      refine VV 2 ?_
      refine WP 3 ?_
      refine WP 4 ?_
      refine WH.only 5 rfl rfl (by kernel_rfl) rfl (OP.callRO rfl rfl (code_nil) ((fun _ _ => trivial)) rfl rfl ⟨fun _ => II, ?_⟩)
      refine WH.only 6 rfl rfl (by kernel_rfl) rfl (OP.buildT rfl rfl rfl rfl ⟨fun _ => II, ?_⟩)
      refine WH.only 7 rfl rfl (by kernel_rfl) rfl (OP.sliceLit (c := encDn (id, kn, 0)) rfl rfl rfl rfl rfl rfl rfl rfl (fun b2 => ⟨fun _ => II, ?_⟩))
      refine WH.only 8 rfl rfl (by kernel_rfl) rfl (OP.append rfl rfl rfl rfl rfl rfl rfl rfl rfl P1 (Ent.own MM) rfl (by omega) (by omega) rfl rfl (fun a' cap' => ⟨(fun h => nomatch h), ?_⟩))
      refine WP 9 ?_
      refine DN ?_
      repeat (first | refine GD ?_ | refine NW fun _ => ?_)
      refine ⟨(k + 1, a', cap'), hlt, by dsimp only; omega, ⟨rfl, rfl, rfl, rfl, rfl, rfl, trivial⟩, ?_⟩
      dsimp only
      rw [hsn, hdef]
      dsimp only
      rw [List.flatMap_append, List.flatMap_cons, List.flatMap_nil, List.append_nil]
      exact II
def ThawPost (p q : Nat) (R : List Dn × Er × Pri) (V : Assn) (x : Value) (M : List Assn) : Prop := ∃ d E e E', DonesA R.1 d E ∧ IsEr R.2.1 e E' ∧ x = .tuple #[d, e] ∧ M = E' ++ (E ++ [priA p q R.2.2, dsk q R.2.2.D, V])
set_option maxHeartbeats 8000000 in
set_option maxRecDepth 10000 in
theorem pthaw_ok (p q : Nat) (P : Pri) (B : Int) (I : PInv P B) (hB : B + 12 ≤ widest) (round now : Int) (V : Assn) (hV : Up V) (hT : ∀ h, V h → ErrT h) :
    Triple G 48 [.pointer (some ⟨p, 0, none⟩), .int .i64 round, .int .i64 now] [priA p q P, dsk q P.D, V] (ThawPost p q (thawP P round now) V) := by
  refine Triple.enter Tryz.func48 rfl (by decide) rfl Tryz.ntmps48 rfl (fun F => ?_)
  refine WC.open (M := [dsk q P.D, V, F]) (Ls := priL p q P) II (fun x => ?_)
  obtain ⟨v, g, s⟩ := x
  have hdef : thawP P round now = match thawG P.G round with
    | .error c => ([], some ([(primT, round), (gateT, round)], c), P)
    | .ok (l, g) => ((letP { P with G := g } now l).1, none, (letP { P with G := g } now l).2) := rfl
  have hdn := pdown_ro p q P.V.J.ring v (.pointer (some ⟨g, 0, none⟩)) (.pointer (some ⟨s, 0, none⟩)) P.marked P.floor P.acked
  have hgt := gthaw_ok g P.G round
  unfold ThawG at hgt
  unfold priL
  dsimp only [List.cons_append, List.nil_append]
  have hfold := fun (G' : Gt) (N : List Assn) => priFold p q { P with G := G' } v g s (N := N)
  have hfew := I.few
  unfold pndC at *
  dsimp only at hfold
  repeat (first | refine GD ?_ | refine NW fun _ => ?_)
  refine WL.step rfl (OP.callRO rfl rfl hdn (Ent.at (up_blk _ _ _) MM) rfl rfl ?_)
  repeat (first | refine GD ?_ | refine NW fun _ => ?_)
  refine WL.step rfl (OP.call (pre := [gateA g P.G]) rfl rfl hgt PS rfl rfl ?_)
  intro xv M hM
  cases hq : thawG P.G round with
  | error c =>
    rw [hq] at hM hdef
    obtain ⟨e, E, hE, rfl, rfl⟩ := hM
    obtain ⟨y, ch, hc1, rfl, rfl⟩ := isEr_hd hE (by simp)
    dsimp only [List.cons_append, List.nil_append]
    have hlt := plet_ok p q P B now none 0 [] I (by show B + 0 + 4 ≤ widest; omega) (fun _ h => nomatch h) (Nat.zero_le _) V hV hT
    have hwr := pwrong_ok round (y :: ch) c (fun h => nomatch h.1)
    dsimp only [valOf] at hwr
    repeat (first | refine GD ?_ | refine NW fun _ => ?_)
    refine WL.imp (M := [ownS none 0 0 caT 3 (([] : List Call).flatMap encCa), priA p q P, dsk q P.D, V, chainR (y :: ch) c, F]) (Imp.trans (Imp.nilS caT 3) (Imp.trans II (Imp.trans (hfold P.G [ownS none 0 0 caT 3 (([] : List Call).flatMap encCa), dsk q P.D, V, chainR (y :: ch) c, F]) II))) ?_
    refine WL.step rfl (OP.call (pre := [ownS none 0 0 caT 3 (([] : List Call).flatMap encCa), priA p q P, dsk q P.D, V]) rfl rfl hlt PS rfl rfl ?_)
    rintro _ _ ⟨E, ⟨a', cap', rfl, rfl⟩, rfl⟩
    dsimp only [List.cons_append, List.nil_append]
    repeat (first | refine GD ?_ | refine NW fun _ => ?_)
    refine WL.step rfl (OP.call (pre := [chainR (y :: ch) c]) rfl rfl hwr PS rfl rfl ?_)
    intro w M hM
    rw [hc1] at hM
    repeat (first | refine GD ?_ | refine NW fun _ => ?_)
    refine ret2 rfl rfl ⟨M ++ ([ownS a' 0 cap' dnT 3 (([] : List Dn).flatMap encDn)] ++ [priA p q P, dsk q P.D, V]), by unfold ThawPost; rw [hdef]; exact ⟨_, _, w, M, ⟨a', cap', rfl, rfl⟩, hM, rfl, rfl⟩, ?_⟩
    rw [List.append_assoc]
    exact Imp.appL II M
  | ok y =>
    obtain ⟨l, g2⟩ := y
    rw [hq] at hM hdef
    obtain ⟨xl, E, ⟨al, cl, rfl, rfl⟩, rfl, rfl⟩ := hM
    have hl : l = P.G.wait ∧ g2 = P.G.opened := by
      unfold thawG at hq
      split at hq
      · cases hq
      · cases hq; exact ⟨rfl, rfl⟩
    obtain ⟨rfl, rfl⟩ := hl
    have hlt := plet_ok p q { P with G := P.G.opened } B now al cl P.G.wait I.opened (by omega) I.wr hfew V hV hT
    dsimp only [List.cons_append, List.nil_append] at hlt hdef ⊢
    generalize P.G.opened = G2 at *
    have hlw : (letP { P with G := G2 } now P.G.wait).1.length = P.G.wait.length := letP_len _ _ _
    generalize letP { P with G := G2 } now P.G.wait = R at *
    obtain ⟨ds, Pb⟩ := R
    dsimp only at hlt hdef hlw
    repeat (first | refine GD ?_ | refine NW fun _ => ?_)
    refine WL.imp (M := [ownS al P.G.wait.length cl caT 3 (P.G.wait.flatMap encCa), priA p q { P with G := G2 }, dsk q P.D, V, F]) (Imp.trans II (Imp.trans (hfold G2 [ownS al P.G.wait.length cl caT 3 (P.G.wait.flatMap encCa), dsk q P.D, V, F]) II)) ?_
    refine WL.step rfl (OP.call (pre := [ownS al P.G.wait.length cl caT 3 (P.G.wait.flatMap encCa), priA p q { P with G := G2 }, dsk q P.D, V]) rfl rfl hlt PS rfl rfl ?_)
    rintro _ _ ⟨E, ⟨a', cap', rfl, rfl⟩, rfl⟩
    dsimp only [List.cons_append, List.nil_append]
    repeat (first | refine GD ?_ | refine NW fun _ => ?_)
    refine WL.step rfl (OP.callRO rfl rfl (pwrong_nil round) (fun _ _ => trivial) rfl rfl ?_)
    repeat (first | refine GD ?_ | refine NW fun _ => ?_)
    exact ret2 rfl rfl ⟨[] ++ ([ownS a' ds.length cap' dnT 3 (ds.flatMap encDn)] ++ [priA p q Pb, dsk q Pb.D, V]), by unfold ThawPost; rw [hdef]; exact ⟨_, _, _, [], ⟨a', cap', rfl, rfl⟩, ⟨rfl, rfl⟩, rfl, rfl⟩, II⟩
set_option maxHeartbeats 8000000 in
set_option maxRecDepth 10000 in
theorem ptick_ok (p q : Nat) (P : Pri) (B : Int) (I : PInv P B) (hB : B + 12 ≤ widest) (now : Int) (V : Assn) (hV : Up V) (hT : ∀ h, V h → ErrT h) :
    Triple G 49 [.pointer (some ⟨p, 0, none⟩), .int .i64 now] [priA p q P, dsk q P.D, V] (fun v M => ∃ E, DonesA (tickP P now).1 v E ∧ M = E ++ [priA p q (tickP P now).2, dsk q (tickP P now).2.D, V]) := by
  refine Triple.enter Tryz.func49 rfl (by decide) rfl Tryz.ntmps49 rfl (fun F => ?_)
  refine WC.open (M := [dsk q P.D, V, F]) (Ls := priL p q P) II (fun x => ?_)
  obtain ⟨v, g, s⟩ := x
  have hdn := pdown_ro p q P.V.J.ring v (.pointer (some ⟨g, 0, none⟩)) (.pointer (some ⟨s, 0, none⟩)) P.marked P.floor P.acked
  have hgt := gtick_ok g P.G I.left
  have hI2 : PInv { P with G := (tickG P.G).2 } B ∧ (∀ c ∈ (tickG P.G).1, RightC c) ∧ (tickG P.G).1.length ≤ 4 := by
    unfold tickG
    have hl := I.left
    split
    · exact ⟨I, (fun _ h => nomatch h), Nat.zero_le _⟩
    split
    · exact ⟨{ I with left := by show 0 ≤ P.G.left - 1 ∧ P.G.left - 1 ≤ 6; omega }, (fun _ h => nomatch h), Nat.zero_le _⟩
    · exact ⟨I.opened, I.wr, I.few⟩
  obtain ⟨I2, h2, h4⟩ := hI2
  have hlt := fun al cl => plet_ok p q { P with G := (tickG P.G).2 } B now al cl (tickG P.G).1 I2 (by omega) h2 h4 V hV hT
  rw [show letP { P with G := (tickG P.G).2 } now (tickG P.G).1 = tickP P now from rfl] at hlt
  unfold priL
  dsimp only [List.cons_append, List.nil_append]
  have hfold := fun (G' : Gt) (N : List Assn) => priFold p q { P with G := G' } v g s (N := N)
  unfold pndC at *
  dsimp only at hfold
  generalize (tickG P.G).1 = l at *
  generalize (tickG P.G).2 = G2 at *
  generalize tickP P now = R at *
  obtain ⟨ds, Pb⟩ := R
  dsimp only at hlt ⊢
  repeat (first | refine GD ?_ | refine NW fun _ => ?_)
  refine WL.step rfl (OP.callRO rfl rfl hdn (Ent.at (up_blk _ _ _) MM) rfl rfl ?_)
  repeat (first | refine GD ?_ | refine NW fun _ => ?_)
  refine WL.step rfl (OP.call (pre := [gateA g P.G]) rfl rfl hgt PS rfl rfl ?_)
  rintro xv _ ⟨E, ⟨al, cl, rfl, rfl⟩, rfl⟩
  have hlt' := hlt al cl
  dsimp only [List.cons_append, List.nil_append]
  repeat (first | refine GD ?_ | refine NW fun _ => ?_)
  refine WL.imp (M := [ownS al l.length cl caT 3 (l.flatMap encCa), priA p q { P with G := G2 }, dsk q P.D, V, F]) (Imp.trans II (Imp.trans (hfold G2 [ownS al l.length cl caT 3 (l.flatMap encCa), dsk q P.D, V, F]) II)) ?_
  refine WL.step rfl (OP.call (pre := [ownS al l.length cl caT 3 (l.flatMap encCa), priA p q { P with G := G2 }, dsk q P.D, V]) rfl rfl hlt' PS rfl rfl ?_)
  rintro _ _ ⟨E, ⟨a', cap', rfl, rfl⟩, rfl⟩
  dsimp only [List.cons_append, List.nil_append]
  repeat (first | refine GD ?_ | refine NW fun _ => ?_)
  exact ret1 rfl ⟨[ownS a' ds.length cap' dnT 3 (ds.flatMap encDn)] ++ [priA p q Pb, dsk q Pb.D, V], ⟨_, ⟨a', cap', rfl, rfl⟩, rfl⟩, II⟩
end Go.Proofs.YtleajkobmhhacaaGreatDoor
/- Contracts of functions of the given program, and plain laws on what they compute: parts of the proofs of laws. -/

namespace Go.Proofs.YtleajkobmhhacaaGreatDoor
open Go Go.GL

/-! a primary: Ship, and its beginning -/
theorem gnew_rt : RT G 170 [] (fun _ => True) (fun v E => ∃ g, v = .pointer (some ⟨g, 0, none⟩) ∧ E = [gateA g gt0]) := by
  refine RT.enter Tryz.func170 rfl (by decide) rfl Tryz.ntmps170 rfl (fun A hu hA => ?_)
  repeat (first | refine GO ?_ | refine NW fun _ => ?_)
  refine ret1 rfl ⟨[gateA _ gt0], ⟨_, rfl, rfl⟩, ?_⟩
  refine Imp.trans (Imp.nilS caT 3) (Imp.trans ?_ (gateFold _ gt0 (none, 0)))
  exact II
theorem ship_seq {J : Jrn} (hs : ∀ i (h : i < J.held.length), (J.held[i]).2.1 = J.hd.first + (i : Nat)) {acked : Int} (ha : acked = J.hd.first - 1) {k : Nat} (h : k < J.held.length) : acked < (J.held[k]).2.1 := by
  rw [hs k h]; omega
set_option maxHeartbeats 8000000 in
set_option maxRecDepth 10000 in
theorem pship_rt (p q : Nat) (P : Pri) (B : Int) (I : PInv P B) (hB : B + 4 ≤ widest) : RT G 56 [.pointer (some ⟨p, 0, none⟩)] (priA p q P) (fun v E => ∃ a cap, v = .slice a (shipP P).length cap ∧ E = [ownS a (shipP P).length cap 116 5 ((shipP P).flatMap encR)]) := by
  refine RT.enterEx Tryz.func56 rfl (by decide) rfl Tryz.ntmps56 rfl (fun x A hu hA => ?_)
  obtain ⟨v, g, s⟩ := x
  have hB' : ∀ {L}, A ∈ L → Ent L (blk p (pndC q P.V.J.ring (.pointer (some ⟨v, 0, none⟩)) (.pointer (some ⟨g, 0, none⟩)) (.pointer (some ⟨s, 0, none⟩)) P.marked P.floor P.acked) pnT) := fun m => Ent.of hu hA m (Ent.at (up_blk _ _ _) (List.Mem.head _))
  have hC : ∀ {L} {i : Nat} {y : Value}, A ∈ L → (pndC q P.V.J.ring (.pointer (some ⟨v, 0, none⟩)) (.pointer (some ⟨g, 0, none⟩)) (.pointer (some ⟨s, 0, none⟩)) P.marked P.floor P.acked)[i]? = some y → Ent L (cellAt p i y) := fun m h => Ent.of hu hA m (Ent.blk (T := pnT) (List.Mem.head _) h)
  have hVo : ∀ {L}, A ∈ L → Ent L (vol v q P.V) := fun m => Ent.of hu hA m (Ent.at (up_vol _ _ _) (List.Mem.tail _ (List.Mem.head _)))
  have hdn := pdown_ro p q P.V.J.ring v (.pointer (some ⟨g, 0, none⟩)) (.pointer (some ⟨s, 0, none⟩)) P.marked P.floor P.acked
  have hrec := vrecords_rt v q P.V (I.rng (by omega))
  have hsh : shipP P = (P.V.J.held.map Prod.snd).take 4 := rfl
  have hack := I.ack
  have hseq := fun k h => ship_seq I.V.j.seq hack (k := k) h
  have hlen := I.V.j.len
  have hrg := I.V.j.ring
  repeat (first | refine GD ?_ | refine NW fun _ => ?_)
  refine WL.step rfl (OP.callRO rfl rfl hdn (hB' MM) rfl rfl ?_)
  repeat (first | refine GD ?_ | refine NW fun _ => ?_)
  refine WL.step rfl (OP.load1 (v := .pointer (some ⟨v, 0, none⟩)) rfl rfl rfl rfl (hC (i := 2) MM rfl) rfl rfl ?_)
  repeat (first | refine GD ?_ | refine NW fun _ => ?_)
  refine WL.step rfl (OP.callRT rfl rfl hrec (hVo MM) rfl rfl ?_)
  rintro _ _ ⟨ah, ch, rfl, rfl⟩
  generalize hK : P.V.J.held = held at *
  repeat (first | refine GD ?_ | refine NW fun _ => ?_)
  refine WC.imp (Imp.nilS 116 5) ?_
  refine WC.loop (σ := Nat × Option Addr × Nat) (fun s => s.1 ≤ held.length)
    (fun s => [(0, .val (.pointer (some ⟨p, 0, none⟩))), (3, .val (.slice s.2.1 (min s.1 4) s.2.2)), (12, .val (.slice ah held.length ch)), (13, .val (.int .i64 held.length)), (14, .val (.int .i64 s.1))])
    (fun s => [ownS s.2.1 (min s.1 4) s.2.2 116 5 ((((held.map Prod.snd).take s.1).take 4).flatMap encR), ownS ah held.length ch 116 5 (held.flatMap (fun x => encR x.2)), A]) (fun s => held.length - s.1)
    (0, none, 0) (Nat.zero_le _) ⟨rfl, rfl, rfl, rfl, rfl, trivial⟩ II ?_
  rintro ⟨k, ar, cr⟩ hk
  dsimp only at hk ⊢
  by_cases hlt : k < held.length
  rotate_left
  · have he : k = held.length := by omega
    subst he
    rw [List.take_of_length_le (show (held.map Prod.snd).length ≤ held.length by rw [List.length_map]; exact Nat.le_refl _), ← hsh]
    have hl : (shipP P).length = min held.length 4 := by rw [hsh, List.length_take, List.length_map, Nat.min_comm]
    repeat (first | refine GD ?_ | refine NW fun _ => ?_)
    refine ret1 rfl ⟨_, ⟨ar, cr, by rw [hl], rfl⟩, ?_⟩
    rw [hl]
    exact II
  have hsq := hseq k hlt
  refine WC.fact (Ent.some (Ent.own (a := ah) (n := held.length) (cap := ch) (T := 116) (size := 5) (cs := held.flatMap (fun x => encR x.2)) MM) (by omega)) ?_
  rintro ⟨b, off, rfl⟩
  have hkl : k < (held.map Prod.snd).length := by rw [List.length_map]; exact hlt
  have hsn : (held.map Prod.snd).take (k + 1) = (held.map Prod.snd).take k ++ [held[k].2] := by
    rw [← List.take_append_getElem hkl, List.getElem_map]
  have htl : ((held.map Prod.snd).take k).length = k := by rw [List.length_take]; omega
  generalize ht1 : (held.map Prod.snd).take (k + 1) = tk1 at *
  generalize (held.map Prod.snd).take k = tk at *
  repeat (first | refine GD ?_ | refine NW fun _ => ?_)
  refine WL.step rfl (OP.loadA (l := encR held[k].2) rfl rfl rfl rfl (Ent.elA (f := fun x : Held => encR x.2) (fun _ => rfl) (Ent.own (T := 116) MM) hlt) rfl rfl rfl ?_)
  generalize held[k].2 = r at *
  obtain ⟨seq, kind, block, data, num⟩ := r
  dsimp only at hsq
  rw [show encR (seq, kind, block, data, num) = [.int .i64 seq, .int .i64 kind, .int .i64 block, .string data, .int .i64 num] from rfl]
  repeat (first | refine GD ?_ | refine NW fun _ => ?_)
  rename_i rb
  by_cases h4 : k < 4
  · have hmin : min k 4 = k := by omega
    have hmin1 : min (k + 1) 4 = k + 1 := by omega
    rw [hmin]
    rw [List.take_of_length_le (show tk.length ≤ 4 by omega)]
    refine RD 12 12 (_) ?_
    refine WP 0 ?_
    refine VV 1 ?_
    refine WP 2 ?_
    refine WP 3 ?_
    refine WP 4 ?_
    refine VL 5 (.int .i64 P.acked) rfl rfl rfl rfl (.inl ⟨rfl, hC (i := 7) MM rfl⟩) ?_
    refine VQ 6 rfl (Quiet.bool (Quiet.pure (c := none) (nw := false) rfl trivial) (decide_eq_true hsq)) ?_
    refine WP 7 ?_
    refine WP 8 ?_
    refine WP 9 ?_
    refine WP 10 ?_
    refine WP 11 ?_
    refine DN ?_
    rw [decide_eq_true (show (k : Int) < 4 by omega)]
    repeat (first | refine GD ?_ | refine NW fun _ => ?_)
    refine WL.step rfl (OP.append (ds := [.int .i64 seq, .int .i64 kind, .int .i64 block, .string data, .int .i64 num]) rfl rfl rfl rfl rfl rfl rfl rfl rfl (show Imp _ (ownS ar k cr 116 5 (tk.flatMap encR) :: _) from P1) (Ent.own (T := 116) MM) rfl (by omega) (by omega) rfl rfl (fun a' cap' => ?_))
    repeat (first | refine GD ?_ | refine NW fun _ => ?_)
    refine ⟨(k + 1, a', cap'), hlt, by dsimp only; omega, ⟨rfl, (by dsimp only; rw [hmin1]; rfl), rfl, rfl, rfl, trivial⟩, ?_⟩
    dsimp only
    rw [ht1, hsn, List.take_of_length_le (show (tk ++ [(seq, kind, block, data, num)]).length ≤ 4 by rw [List.length_append, List.length_singleton]; omega), hmin1]
    rw [List.flatMap_append, List.flatMap_cons, List.flatMap_nil, List.append_nil]
    exact II
  · have hmin : min k 4 = 4 := by omega
    have hmin1 : min (k + 1) 4 = 4 := by omega
    rw [hmin]
    refine RD 12 12 (_) ?_
    refine WP 0 ?_
    refine VV 1 ?_
    refine WP 2 ?_
    refine WP 3 ?_
    refine WP 4 ?_
    refine VL 5 (.int .i64 P.acked) rfl rfl rfl rfl (.inl ⟨rfl, hC (i := 7) MM rfl⟩) ?_
    refine VQ 6 rfl (Quiet.bool (Quiet.pure (c := none) (nw := false) rfl trivial) (decide_eq_true hsq)) ?_
    refine WP 7 ?_
    refine WP 8 ?_
    refine WP 9 ?_
    refine WP 10 ?_
    refine WP 11 ?_
    refine DN ?_
    repeat (first | refine GD ?_ | refine NW fun _ => ?_)
    refine ⟨(k + 1, ar, cr), hlt, by dsimp only; omega, ⟨rfl, (by dsimp only; rw [hmin1]; rfl), rfl, rfl, rfl, trivial⟩, ?_⟩
    dsimp only
    rw [ht1, hsn, hmin1, List.take_append_of_le_length (by omega)]
    exact II
end Go.Proofs.YtleajkobmhhacaaGreatDoor
namespace Go.GL
open Go Go.MapKept
theorem Imp.dropA (E L : List Assn) : Imp (E ++ L) L := by
  induction E with
  | nil => exact Imp.refl _
  | cons x r ih => exact Imp.dropTail ih
section
variable {G : Ctx} {N : Nat} {env : Env} {L S : List Assn} {o o' : Oper} {k : Kont} {n : Nat} {fuel : Nat} {listed : Array Bool} {hd : Bool} {l : List Oper}
/-- a value that is built, some of its parts not told -/
theorem Quiet.build {t : TypeId} {ps : List (Nat × Operand)} {v : Value} (ho : o.op = .build t ps.toArray) (hv : evBuild G.T env t ps = some v) : Quiet G N env S o v := ⟨fun a w ha _ => by
  rw [execOp, ho]
  refine val_run ?_
  unfold evBuild at hv
  split at hv
  · rename_i fs sz by_ z cm ht
    have e := Tab.find_ok G.ok ht
    split at hv
    · rename_i pl pv hpl hpv
      split at hv
      · rename_i c hfit hfill
        cases hv
        have hpv' := rdParts_ok ha hpv
        have hp := run_places (P := G.P) G.ok w hpl
        have hf := fill_eq (place' := nthP pl) (fun _ _ h => h) (fun i off size ei => allFit_ok hfit i off size (by rw [← nthP_eq]; exact ei)) hfill
        have hun : G.P.underlying t = some (.struct fs) := e.desc
        have hz : (zeroOf ⟨.struct fs, sz, by_, z, true, cm⟩).cells = z.toArray := zero_agg rfl
        have hmap : (fs.mapM (fun f => do Pure.pure (f.offset, ← sizeOf f.type) : Field → Sem (Nat × Nat))).run G.P w = .ok pl.toArray w := by
          obtain ⟨fl⟩ := fs
          rw [List.mapM_toArray]
          simp only [Sem.run_map]
          rw [hp]; rfl
        have hplace : (fun i => pl.toArray[i]?) = nthP pl := by funext i; rw [nthP_eq]; simp
        simp only [Instr.build, Sem.run_bind, run_zero e, Result.andThen_ok, run_underlying hun, hz, hmap, List.map_toArray, hpv', hplace, hf, Sem.run_pure]
      · cases hv
    · cases hv
  · rename_i n el sz by_ z cm ht
    have e := Tab.find_ok G.ok ht
    split at hv
    · rename_i ti pv hti hpv
      split at hv
      · rename_i c hb hfill
        cases hv
        have hpv' := rdParts_ok ha hpv
        have hlen := Nat.eq_of_beq_eq_true hb
        have hf := fill_eq (place' := fun i => some (i * ti.size, ti.size)) (fun i x hx => by
            split at hx
            · exact hx
            · cases hx) (fun i off size ei => by
            split at ei
            · rename_i hlt
              cases ei
              have hlt : i < n := by simpa [Nat.blt_eq] using hlt
              rw [← hlen, ← Nat.succ_mul]
              exact Nat.mul_le_mul_right _ hlt
            · cases ei) hfill
        have hun : G.P.underlying t = some (.array n el) := e.desc
        have hz : (zeroOf ⟨.array n el, sz, by_, z, true, cm⟩).cells = z.toArray := zero_agg rfl
        simp only [Instr.build, Sem.run_bind, run_zero e, Result.andThen_ok, run_underlying hun, hz, run_size (Tab.find_ok G.ok hti), List.map_toArray, hpv', hf, Sem.run_pure]
      · cases hv
    · cases hv
  · cases hv⟩
/-- two operations may come up now -/
theorem WH.two (i j : Nat) {hd1 hd2 : Bool} (hi : l.toArray[i]? = some o) (hj : l.toArray[j]? = some o') (hg : o.guard = none) (hg' : o'.guard = none) (hr : Region.ready .any l.toArray listed = [i, j]) (hb1 : hd1 = (hd && Nat.blt i n)) (hb2 : hd2 = (hd && Nat.blt j n))
    (h1 : OP G N o env L (fun e M => (hd1 = true → Imp M S) ∧ WH G N l.toArray n S hd1 fuel (listed.setIfInBounds i true) e M k))
    (h2 : OP G N o' env L (fun e M => (hd2 = true → Imp M S) ∧ WH G N l.toArray n S hd2 fuel (listed.setIfInBounds j true) e M k)) : WH G N l.toArray n S hd (fuel + 1) listed env L k := .mk fun a w ha hsat hS0 hcl => by
  refine ⟨fun h0 => (by rw [hr] at h0; cases h0), fun x hx => ?_⟩
  have hrx := hx
  rw [hr] at hx
  rcases List.mem_cons.1 hx with rfl | hx
  · unfold wpOp
    rw [hi]
    simp only []
    rw [if_pos (by simp [Region.wanted, hg])]
    refine .inl (wp_oper_mono ?_ (fun _ _ _ h => h.elim) (h1 a w ha hsat))
    rintro a' w' ⟨e, M, x, y, z1, z2⟩
    subst hb1
    exact ⟨fun hlt => (z1 hlt).sat y, z2 a' w' x y (fun e => (z1 e).sat y) (hcl.set hrx)⟩
  · obtain rfl := List.mem_singleton.1 hx
    unfold wpOp
    rw [hj]
    simp only []
    rw [if_pos (by simp [Region.wanted, hg'])]
    refine .inl (wp_oper_mono ?_ (fun _ _ _ h => h.elim) (h2 a w ha hsat))
    rintro a' w' ⟨e, M, x, y, z1, z2⟩
    subst hb2
    exact ⟨fun hlt => (z1 hlt).sat y, z2 a' w' x y (fun e => (z1 e).sat y) (hcl.set hrx)⟩
end
section
variable {G : Ctx} {N : Nat} {env : Env} {L : List Assn} {o : Oper} {post : Env → List Assn → Prop} {d : Nat}
/-- v, ok := m[k], of a map that is not nil -/
theorem OP.lookupOk {t kt e : TypeId} {x ix : Operand} {tm tk te : TI} {r : Nat} {k : Int} {m : Int → Option Value} {z : Value} (ho : o.op = .lookup t x ix true) (hx : rd none env x = some (none, .map (some r))) (hi : rd none env ix = some (none, .int .i64 k))
    (ht : G.T.find t = some tm) (hdm : tm.desc = .map kt e) (htk : G.T.find kt = some tk) (hdk : tk.desc = .int .i64) (hte : G.T.find e = some te) (hz : zeroOf te = z) (hm : Ent L (mapA r m)) (hd : o.dst = some d) (hN : Nat.blt d N = true)
    (h : post ((d, .val (.tuple #[(m k).getD z, .bool (m k).isSome])) :: env) L) : OP G N o env L post := by
  subst hz
  refine .run (fun a w ha hs => ?_) hd hN h
  obtain ⟨es, clock, he, hb⟩ := hm _ hs
  have hb' : w.heap[r]? = some (.map es clock) := hpOf_obj.1 hb
  have u : G.P.underlying t = some (.map kt e) := hdm ▸ (Tab.find_ok G.ok ht).desc
  have uk : G.P.underlying kt = some (.int .i64) := hdk ▸ (Tab.find_ok G.ok htk).desc
  rw [execOp, ho]
  rcases he.find k with ⟨h1, h2, _⟩ | ⟨j, en, h1, h2, _, _⟩
  · rw [h1]
    simp [Instr.lookup, run_underlying u, rd_plain hx ha, rd_plain hi ha, MapKept.run_getObj_map hb', run_checkKey (k := .int .i64 k) uk rfl, run_findKey uk h2, run_zeroV (Tab.find_ok G.ok hte)]
  · rw [h1]
    simp [Instr.lookup, run_underlying u, rd_plain hx ha, rd_plain hi ha, MapKept.run_getObj_map hb', run_checkKey (k := .int .i64 k) uk rfl, run_findKey uk h2]
end
/-- as WL.meet, with one piece of code between -/
theorem WL.meet2 {G : Ctx} {N : Nat} {ops : Array Oper} {rest : List Oper} {env : Env} {L : List Assn} {b x y : Code} {k : Kont} (k' : Env → List Assn → Prop)
    (hx : WL G N ops rest env L (seqK G N b (seqK G N x (fun e E M => match e with | .normal => k' E M | e => k e E M)))) (hy : ∀ E M, k' E M → WC G N y E M k) : WL G N ops rest env L (seqK G N (.seq b (.seq x y)) k) :=
  hx.mono (seqK_up (meetK hy))
end Go.GL
/- Contracts of functions of the given program, and plain laws on what they compute: parts of the proofs of laws. -/

namespace Go.Proofs.YtleajkobmhhacaaGreatDoor
open Go Go.GL

/-! a primary: how it begins -/
theorem floorV {l : List UInt8} {n : Int} {v : Value} (h : FloorPost l v) (hf : floorM l = some n) : v = .tuple #[.int .i64 n, .bool true] := by
  unfold FloorPost at h
  rw [hf] at h
  exact h
set_option maxHeartbeats 16000000 in
set_option maxRecDepth 10000 in
theorem pbegin_ok (p q : Nat) (ring : Nat) (v0 g0 s0 : Value) (m0 f0 a0 : Int) (D : Dsk) (hD : D.ok) (hw : D.W.length < 10000) (hr : 1 ≤ ring ∧ ring ≤ 512) {V : Vol} {D' : Dsk} (ho : openV D ring = .ok (V, D')) {floor : Int} (hfl : 0 ≤ floor ∧ floor ≤ widest)
    (hf : D'.S.getD (ring + 10) [] = floorS floor) (hV : V.rng) (hVr : V.J.ring = ring) (hD' : D'.ok) (hW : D'.W = []) (hl : ring + 11 ≤ D'.S.length) (hn : 1 ≤ V.J.hd.first ∧ V.J.next ≤ widest) :
    Triple G 105 [.pointer (some ⟨p, 0, none⟩)] [blk p (pndC q ring v0 g0 s0 m0 f0 a0) pnT, dsk q D] (fun v M => v = .nilIface ∧ M = [priA p q (beginP V D' floor), dsk q D']) := by
  refine Triple.enter Tryz.func105 rfl (by decide) rfl Tryz.ntmps105 rfl (fun F => ?_)
  have hww := widest_eq
  have hop := vopen_ok q D ring hD hw (by omega)
  unfold OpenVP at hop
  rw [ho] at hop
  have hcur : D'.cur (ring + 10) = floorS floor := by
    have : D'.cur (ring + 10) = D'.S.getD (ring + 10) [] := by unfold Dsk.cur; rw [hW]; rfl
    rw [this, hf]
  have het : ((ring : Int) + 11 - 1).toNat = ring + 10 := by omega
  have hrd := dread_rt q D' ((ring : Int) + 11 - 1) hD' (by rw [hW]; decide)
  unfold DReadPost at hrd
  rw [het, hcur] at hrd
  have hsc := psectors_ro ring (by omega)
  have h64 := floorS_len floor
  have hfm := floorM_floorS hfl
  have hnx := fun v => vnext_ro v q V hV
  have hrec := fun v => vrecords_rt v q V hV
  have hJn : V.J.next = V.J.hd.first + V.J.held.length := rfl
  have hfold := fun (v g s : Nat) (N : List Assn) => priFold p q (beginP V D' floor) v g s (N := N)
  unfold pndC at *
  dsimp only [beginP] at hfold
  rw [hVr] at hfold
  generalize floorS floor = fS at *
  repeat (first | refine GD ?_ | refine NW fun _ => ?_)
  refine RD 8 14 (_) ?_
  refine WP 0 ?_
  refine WP 1 ?_
  refine WP 2 ?_
  refine VV 3 ?_
  refine WP 4 ?_
  refine WP 5 ?_
  refine WP 6 ?_
  refine VV 7 ?_
  refine WH.only 8 rfl rfl (by kernel_rfl) rfl (OP.call (pre := [dsk q D]) rfl rfl hop PS rfl rfl (fun v M hM => ?_))
  obtain ⟨v, rfl, rfl⟩ := hM
  refine ⟨(fun h => nomatch h), ?_⟩
  refine WP 9 ?_
  refine WP 10 ?_
  refine WP 11 ?_
  refine WP 12 ?_
  refine WP 13 ?_
  refine DN ?_
  repeat (first | refine GD ?_ | refine NW fun _ => ?_)
  refine RD 16 16 (_) ?_
  refine WP 0 ?_
  refine WP 1 ?_
  refine WP 2 ?_
  refine VV 3 ?_
  refine WP 4 ?_
  refine WP 5 ?_
  refine WP 6 ?_
  refine VV 7 ?_
  refine WH.only 8 rfl rfl (by kernel_rfl) rfl (OP.callRO rfl rfl (hsc) ((fun _ _ => trivial)) rfl rfl ⟨fun _ => II, ?_⟩)
  refine WP 9 ?_
  refine WH.only 10 rfl rfl (by kernel_rfl) rfl (OP.callRT rfl rfl hrd (Ent.at (up_dsk _ _) MM) rfl rfl (fun x E hE' => ?_))
  rw [if_pos (by omega)] at hE'
  obtain ⟨br, rfl, rfl⟩ := hE'
  refine ⟨fun _ => II, ?_⟩
  refine WP 11 ?_
  refine WP 12 ?_
  refine WP 13 ?_
  refine WP 14 ?_
  refine WP 15 ?_
  refine DN ?_
  have hfo := floorOf_rt (some ⟨br, 0, none⟩) 64 64 fS h64.symm (Nat.le_refl _) rfl
  repeat (first | refine GD ?_ | refine NW fun _ => ?_)
  refine WL.step rfl (OP.callRT rfl rfl hfo (Ent.at (up_readS _ _ _ _) MM) rfl rfl ?_)
  rintro x _ ⟨hx, rfl⟩
  rw [floorV hx hfm]
  repeat (first | refine GD ?_ | refine NW fun _ => ?_)
  refine RD 16 17 (_) ?_
  refine WP 0 ?_
  refine WP 1 ?_
  refine WP 2 ?_
  refine WP 3 ?_
  refine VV 4 ?_
  refine WP 5 ?_
  refine WP 6 ?_
  refine WP 7 ?_
  refine VV 8 ?_
  refine WP 9 ?_
  refine VQ 11 rfl (Quiet.build rfl rfl) ?_
  refine WP 13 ?_
  refine WH.two 10 12 rfl rfl rfl rfl (by kernel_rfl) rfl rfl ?_ ?_
  · refine (OP.callRT rfl rfl gnew_rt (fun _ _ => trivial) rfl rfl (fun x E hE' => ?_))
    obtain ⟨g, rfl, rfl⟩ := hE'
    refine ⟨fun _ => II, ?_⟩
    refine WH.only 12 rfl rfl (by kernel_rfl) rfl (OP.box rfl rfl rfl rfl rfl (fun s => ⟨fun _ => II, ?_⟩))
    refine VQ 14 rfl (Quiet.build rfl rfl) ?_
    refine WP 15 ?_
    refine WH.only 16 rfl rfl (by kernel_rfl) rfl (OP.store rfl rfl rfl rfl rfl rfl rfl UP rfl ⟨(fun h => nomatch h), ?_⟩)
    refine DN ?_
    by_cases hfz : floor = 0
    · subst hfz
      repeat (first | refine GD ?_ | refine NW fun _ => ?_)
      refine WL.step rfl (OP.callRO rfl rfl (hnx v) (Ent.at (up_vol _ _ _) MM) rfl rfl ?_)
      repeat (first | refine GD ?_ | refine NW fun _ => ?_)
      refine WL.step rfl (OP.callRT rfl rfl (hrec v) (Ent.at (up_vol _ _ _) MM) rfl rfl ?_)
      rintro _ _ ⟨ah, ch, rfl, rfl⟩
      have hac : V.J.next - 1 - (V.J.held.length : Int) = V.J.hd.first - 1 := by omega
      repeat (first | refine GD ?_ | refine NW fun _ => ?_)
      rw [hac]
      repeat (first | refine GD ?_ | refine NW fun _ => ?_)
      refine ret1 rfl ⟨[priA p q (beginP V D' _), dsk q D'], ⟨rfl, rfl⟩, ?_⟩
      exact Imp.trans II (Imp.trans (hfold v g s [dsk q D', F]) II)
    have hfp : 0 < floor := by omega
    have hgf := gfreeze_ok g gt0 floor 1
    unfold FreezeG at hgf
    rw [show freezeG gt0 floor 1 = .ok ⟨floor, 1, floor, []⟩ by unfold freezeG; rw [if_neg (by omega), if_neg (by show ¬ (floor ≠ 0 ∧ floor ≤ 0); omega)]; rfl] at hgf
    have hgt := gthaw_ok g ⟨floor, 1, floor, []⟩ floor
    unfold ThawG at hgt
    rw [show thawG ⟨floor, 1, floor, []⟩ floor = .ok ([], openG floor) by unfold thawG; rw [if_neg (by show ¬ (floor = 0 ∨ floor ≠ floor); omega)]; rfl] at hgt
    repeat (first | refine GD ?_ | refine NW fun _ => ?_)
    refine WL.step rfl (OP.call (pre := [gateA g gt0]) rfl rfl hgf PS rfl rfl ?_)
    rintro _ _ ⟨rfl, rfl⟩
    repeat (first | refine GD ?_ | refine NW fun _ => ?_)
    refine WL.step rfl (OP.call (pre := [gateA g ⟨floor, 1, floor, []⟩]) rfl rfl hgt PS rfl rfl ?_)
    rintro _ _ ⟨xl, E, ⟨al, cl, rfl, rfl⟩, rfl, rfl⟩
    dsimp only [List.cons_append, List.nil_append]
    repeat (first | refine GD ?_ | refine NW fun _ => ?_)
    refine WL.step rfl (OP.callRO rfl rfl (hnx v) (Ent.at (up_vol _ _ _) MM) rfl rfl ?_)
    repeat (first | refine GD ?_ | refine NW fun _ => ?_)
    refine WL.step rfl (OP.callRT rfl rfl (hrec v) (Ent.at (up_vol _ _ _) MM) rfl rfl ?_)
    rintro _ _ ⟨ah, ch, rfl, rfl⟩
    have hac : V.J.next - 1 - (V.J.held.length : Int) = V.J.hd.first - 1 := by omega
    repeat (first | refine GD ?_ | refine NW fun _ => ?_)
    rw [hac]
    repeat (first | refine GD ?_ | refine NW fun _ => ?_)
    refine ret1 rfl ⟨[priA p q (beginP V D' _), dsk q D'], ⟨rfl, rfl⟩, ?_⟩
    exact Imp.trans II (Imp.trans (hfold v g s [dsk q D', F]) II)
  · refine (OP.box rfl rfl rfl rfl rfl (fun s => ⟨fun _ => II, ?_⟩))
    refine WH.only 10 rfl rfl (by kernel_rfl) rfl (OP.callRT rfl rfl gnew_rt (fun _ _ => trivial) rfl rfl (fun x E hE' => ?_))
    obtain ⟨g, rfl, rfl⟩ := hE'
    refine ⟨fun _ => II, ?_⟩
    refine VQ 14 rfl (Quiet.build rfl rfl) ?_
    refine WP 15 ?_
    refine WH.only 16 rfl rfl (by kernel_rfl) rfl (OP.store rfl rfl rfl rfl rfl rfl rfl UP rfl ⟨(fun h => nomatch h), ?_⟩)
    refine DN ?_
    by_cases hfz : floor = 0
    · subst hfz
      repeat (first | refine GD ?_ | refine NW fun _ => ?_)
      refine WL.step rfl (OP.callRO rfl rfl (hnx v) (Ent.at (up_vol _ _ _) MM) rfl rfl ?_)
      repeat (first | refine GD ?_ | refine NW fun _ => ?_)
      refine WL.step rfl (OP.callRT rfl rfl (hrec v) (Ent.at (up_vol _ _ _) MM) rfl rfl ?_)
      rintro _ _ ⟨ah, ch, rfl, rfl⟩
      have hac : V.J.next - 1 - (V.J.held.length : Int) = V.J.hd.first - 1 := by omega
      repeat (first | refine GD ?_ | refine NW fun _ => ?_)
      rw [hac]
      repeat (first | refine GD ?_ | refine NW fun _ => ?_)
      refine ret1 rfl ⟨[priA p q (beginP V D' _), dsk q D'], ⟨rfl, rfl⟩, ?_⟩
      exact Imp.trans II (Imp.trans (hfold v g s [dsk q D', F]) II)
    have hfp : 0 < floor := by omega
    have hgf := gfreeze_ok g gt0 floor 1
    unfold FreezeG at hgf
    rw [show freezeG gt0 floor 1 = .ok ⟨floor, 1, floor, []⟩ by unfold freezeG; rw [if_neg (by omega), if_neg (by show ¬ (floor ≠ 0 ∧ floor ≤ 0); omega)]; rfl] at hgf
    have hgt := gthaw_ok g ⟨floor, 1, floor, []⟩ floor
    unfold ThawG at hgt
    rw [show thawG ⟨floor, 1, floor, []⟩ floor = .ok ([], openG floor) by unfold thawG; rw [if_neg (by show ¬ (floor = 0 ∨ floor ≠ floor); omega)]; rfl] at hgt
    repeat (first | refine GD ?_ | refine NW fun _ => ?_)
    refine WL.step rfl (OP.call (pre := [gateA g gt0]) rfl rfl hgf PS rfl rfl ?_)
    rintro _ _ ⟨rfl, rfl⟩
    repeat (first | refine GD ?_ | refine NW fun _ => ?_)
    refine WL.step rfl (OP.call (pre := [gateA g ⟨floor, 1, floor, []⟩]) rfl rfl hgt PS rfl rfl ?_)
    rintro _ _ ⟨xl, E, ⟨al, cl, rfl, rfl⟩, rfl, rfl⟩
    dsimp only [List.cons_append, List.nil_append]
    repeat (first | refine GD ?_ | refine NW fun _ => ?_)
    refine WL.step rfl (OP.callRO rfl rfl (hnx v) (Ent.at (up_vol _ _ _) MM) rfl rfl ?_)
    repeat (first | refine GD ?_ | refine NW fun _ => ?_)
    refine WL.step rfl (OP.callRT rfl rfl (hrec v) (Ent.at (up_vol _ _ _) MM) rfl rfl ?_)
    rintro _ _ ⟨ah, ch, rfl, rfl⟩
    have hac : V.J.next - 1 - (V.J.held.length : Int) = V.J.hd.first - 1 := by omega
    repeat (first | refine GD ?_ | refine NW fun _ => ?_)
    rw [hac]
    repeat (first | refine GD ?_ | refine NW fun _ => ?_)
    refine ret1 rfl ⟨[priA p q (beginP V D' _), dsk q D'], ⟨rfl, rfl⟩, ?_⟩
    exact Imp.trans II (Imp.trans (hfold v g s [dsk q D', F]) II)
end Go.Proofs.YtleajkobmhhacaaGreatDoor
/- Contracts of functions of the given program, and plain laws on what they compute: parts of the proofs of laws. -/

namespace Go.Proofs.YtleajkobmhhacaaGreatDoor
open Go Go.GL

/-! a primary: Open, Crash -/
set_option maxHeartbeats 8000000 in
set_option maxRecDepth 10000 in
theorem popen_ok (q : Nat) (ring : Nat) (D : Dsk) (hD : D.ok) (hw : D.W.length < 10000) (hr : 1 ≤ ring ∧ ring ≤ 512) (hlD : ring + 11 ≤ D.S.length) {V : Vol} {D' : Dsk} (ho : openV D ring = .ok (V, D')) {floor B : Int} (I : PInv (beginP V D' floor) B) (hB : B + 2 ≤ widest) (hVr : V.J.ring = ring) :
    Triple G 41 [.pointer (some ⟨q, 0, none⟩), .int .i64 ring] [dsk q D] (fun v M => ∃ p, v = .tuple #[.pointer (some ⟨p, 0, none⟩), .nilIface] ∧ M = [priA p q (beginP V D' floor), dsk q D']) := by
  refine Triple.enter Tryz.func41 rfl (by decide) rfl Tryz.ntmps41 rfl (fun F => ?_)
  have hsc := psectors_ro ring (by omega)
  have hbd := I.V.j.bound
  have hh := I.V.j.hdr
  have hww := widest_eq
  have hbg := fun p v0 g0 s0 m0 f0 a0 => pbegin_ok p q ring v0 g0 s0 m0 f0 a0 D hD hw hr ho I.fr (by rw [← hVr]; exact I.fl) (I.rng hB) hVr I.V.j.dok I.W (by rw [← hVr]; exact I.len) ⟨hh.2.1, by unfold Jrn.next; have : (beginP V D' floor).V = V := rfl; rw [this] at hbd hh; omega⟩
  unfold pndC at hbg
  repeat (first | refine GD ?_ | refine NW fun _ => ?_)
  refine WL.guardT rfl rfl rfl rfl (OP.callRO rfl rfl (dlen_ro q D) (Ent.at (up_dsk _ _) MM) rfl rfl ?_)
  repeat (first | refine GD ?_ | refine NW fun _ => ?_)
  refine WL.guardT rfl rfl rfl rfl (OP.callRO rfl rfl hsc (fun _ _ => trivial) rfl rfl ?_)
  repeat (first | refine GD ?_ | refine NW fun _ => ?_)
  rename_i p
  refine WL.step rfl (OP.call (pre := [blk p _ pnT, dsk q D]) rfl rfl (hbg p (.pointer none) (.pointer none) (.pointer none) 0 0 0) PS rfl rfl ?_)
  rintro _ _ ⟨rfl, rfl⟩
  repeat (first | refine GD ?_ | refine NW fun _ => ?_)
  exact ret2 rfl rfl ⟨[priA p q (beginP V D' floor), dsk q D'], ⟨p, rfl, rfl⟩, II⟩
set_option maxHeartbeats 8000000 in
set_option maxRecDepth 10000 in
theorem pcrash_ok (p q : Nat) (P : Pri) (B : Int) (I : PInv P B) (hB : B + 4 ≤ widest) (keep : Int) (hk : 0 ≤ keep ∧ keep < 18446744073709551616) :
    Triple G 55 [.pointer (some ⟨p, 0, none⟩), .int .u64 keep] [priA p q P, dsk q P.D] (fun v M => v = .nilIface ∧ M = [priA p q (crashP P keep), dsk q (crashP P keep).D]) := by
  refine Triple.enter Tryz.func55 rfl (by decide) rfl Tryz.ntmps55 rfl (fun F => ?_)
  refine WC.open (M := [dsk q P.D, F]) (Ls := priL p q P) II (fun x => ?_)
  obtain ⟨v, g, s⟩ := x
  obtain ⟨V', D', ho, hcr, I', _, _, e3, e4, e5, e6, e7⟩ := I.crash hB keep
  have hr := I.V.j.ring
  have hbd := I'.V.j.bound
  have hww := widest_eq
  have hh := I'.V.j.hdr
  have hdc := dcrash_ok q P.D keep hk I.V.j.dok (by rw [I.W]; decide)
  have hbg := pbegin_ok p q P.V.J.ring (.pointer (some ⟨v, 0, none⟩)) (.pointer (some ⟨g, 0, none⟩)) (.pointer (some ⟨s, 0, none⟩)) P.marked P.floor P.acked (P.D.crash keep) (Dsk.settle_ok I.V.j.dok _) (by show (0 : Nat) < 10000; decide) ⟨hr.1, hr.2.1⟩ ho I.fr e7 (I'.rng (by omega)) e3 I'.V.j.dok I'.W (by rw [e6]; exact I.len) ⟨hh.2.1, by unfold Jrn.next; have : (beginP V' D' P.floor).V = V' := rfl; rw [this] at hbd hh; omega⟩
  rw [hcr]
  unfold priL
  dsimp only [List.cons_append, List.nil_append]
  unfold pndC at *
  repeat (first | refine GD ?_ | refine NW fun _ => ?_)
  refine WL.step rfl (OP.call (pre := [dsk q P.D]) rfl rfl hdc PS rfl rfl ?_)
  rintro _ _ ⟨rfl, rfl⟩
  repeat (first | refine GD ?_ | refine NW fun _ => ?_)
  refine WL.step rfl (OP.call (pre := [blk p _ pnT, dsk q (P.D.crash keep)]) rfl rfl hbg PS rfl rfl ?_)
  rintro _ _ ⟨rfl, rfl⟩
  repeat (first | refine GD ?_ | refine NW fun _ => ?_)
  refine WL.step rfl (OP.callRO rfl rfl (pwrong_nil 0) (fun _ _ => trivial) rfl rfl ?_)
  repeat (first | refine GD ?_ | refine NW fun _ => ?_)
  exact ret1 rfl ⟨[priA p q (beginP V' D' P.floor), dsk q D'], ⟨rfl, rfl⟩, II⟩
end Go.Proofs.YtleajkobmhhacaaGreatDoor
/- Contracts of functions of the given program, and plain laws on what they compute: parts of the proofs of laws. -/
namespace Go.Proofs.YtleajkobmhhacaaGreatDoor
open Go Go.GL

/-! a primary's calls that come to pass -/
theorem PInv.writeOk {P : Pri} {B : Int} (I : PInv P B) (hB : B + 4 ≤ widest) {c : Call} {e now : Int} (hk : checkS P.S e now = none) (hc : RightC c) (h0 : P.G.round = 0) (hf : P.V.J.held.length ≠ P.V.J.ring) :
    ∃ P', writeP P c e now = (.ok P.V.J.next, P') ∧ PInv P' (B + 2) ∧ DidP P c P' ∧ P'.S = P.S.at_ now := by
  have hw : writeP P c e now = enterP (P.at_ now) c := by
    unfold writeP
    rw [hk]
    dsimp only
    rw [if_neg (fun h => h hc.1), if_neg (by have := hc.2; omega)]
  have he : enterP (P.at_ now) c = match doP (P.at_ now) c with
      | .error (l, k) => (.error ((primT, c.2.1) :: l, k), P.at_ now)
      | .ok (k, P') => (.ok k, P') := by
    have h0' : (P.at_ now).G.round = 0 := h0
    unfold enterP
    rw [if_pos h0']
    rfl
  rcases (I.at_ now).do_ hB hc with ⟨hx, _⟩ | ⟨_, P', h, I', e1, e2, e3, e4, e5, e6, e7, e8, e9, _⟩
  · exact absurd hx hf
  · rw [hw, he, h]
    exact ⟨P', rfl, I', ⟨⟨e5, e7, e8, e9, e3, e4, by rw [e6]; rfl, by rw [e6]; rfl⟩, e1, e2⟩, e6⟩
theorem PInv.writeNo {P : Pri} {c : Call} {e now k : Int} (hk : checkS P.S e now = some k) : writeP P c e now = (.error ([(primT, c.2.1), (leaseT, e)], k), P.at_ now) := by
  unfold writeP
  rw [hk]
theorem PInv.writeWait {P : Pri} {c : Call} {e now : Int} (hk : checkS P.S e now = none) (hc : RightC c) (h0 : P.G.round ≠ 0) :
    writeP P c e now = if 4 ≤ P.G.wait.length then (.error ([(primT, c.2.1), (gateT, P.G.round)], 7), P.at_ now) else (.ok 0, { P.at_ now with G := { P.G with wait := P.G.wait ++ [c] } }) := by
  unfold writeP
  rw [hk]
  dsimp only
  rw [if_neg (fun h => h hc.1), if_neg (by have := hc.2; omega)]
  have h0' : ¬ (P.at_ now).G.round = 0 := h0
  unfold enterP
  rw [if_neg h0']
  rfl
theorem grantS_st0 {e : Int} (h : 1 ≤ e) : grantS st0 e 0 = (none, ⟨0, e, 10⟩) := by
  unfold grantS
  rw [if_neg (by omega), if_neg (by show ¬ e < 0; omega)]
  rfl
theorem checkS_at {e til e' now : Int} (h : e ≠ 0) : checkS ⟨0, e, til⟩ e' now = if e' ≠ e then some 10 else if til ≤ max 0 (min now big60) then some 11 else none := by
  unfold checkS
  dsimp only [St.at_]
  by_cases h1 : e' = e
  · have a1 : ¬ (e = 0 ∨ e' ≠ e) := by rintro (x | x); exact h x; exact x h1
    have a2 : ¬ (e' ≠ e) := fun x => x h1
    rw [if_neg a1, if_neg a2]
    rfl
  · have a1 : e = 0 ∨ e' ≠ e := .inr h1
    rw [if_pos a1, if_pos h1]
theorem checkS_11 {s : St} {e now : Int} (h0 : s.epoch ≠ 0) (he : e = s.epoch) (ht : s.til ≤ (s.at_ now).now) : checkS s e now = some 11 := by
  unfold checkS
  rw [if_neg (fun h => by rcases h with h | h; exact h0 h; exact h he), if_pos ht]
theorem checkS_none {s : St} {e now : Int} (h0 : s.epoch ≠ 0) (he : e = s.epoch) (ht : ¬ s.til ≤ (s.at_ now).now) : checkS s e now = none := by
  unfold checkS
  rw [if_neg (fun h => by rcases h with h | h; exact h0 h; exact h he), if_neg ht]
end Go.Proofs.YtleajkobmhhacaaGreatDoor
/- Contracts of functions of the given program, and plain laws on what they compute: parts of the proofs of laws. -/

namespace Go.Proofs.YtleajkobmhhacaaGreatDoor
open Go Go.GL

/-! what the laws of the primary are made of -/
theorem prePost {p q : Nat} {P : Pri} {c : Call} {e now : Int} {R : Except Er1 Int × Pri} {x : Value} {M : List Assn} (h : WritePost p q (writeP P c e now) x M) (hR : writeP P c e now = R) : WritePost p q R x M := hR ▸ h
set_option maxHeartbeats 8000000 in
set_option maxRecDepth 10000 in
theorem pawake_ro : RO G 40 [] (fun _ => True) (.bool true) := by
  refine RO.enter Tryz.func40 rfl (by decide) rfl Tryz.ntmps40 rfl (fun A hu hA => ?_) (fun _ _ _ h => h)
  have hw := widest_eq
  obtain ⟨V, D, ho, I0, hring, hheld, hnext, hblks, hlen, hW, _⟩ := PInv.fresh (ring := 4) (by decide) (by decide)
  have ho' : openV (Dsk.new 15) (4 : Nat) = .ok (V, D) := ho
  have hpo := fun q => popen_ok q 4 (Dsk.new 15) (Dsk.new_ok 15) (by decide) (by decide) (by decide) ho' I0 (by omega) hring
  have hgr := fun p q => pgrant_ok p q (beginP V D 0) 1 0 I0.st
  have hgS : grantP (beginP V D 0) 1 0 = (none, { beginP V D 0 with S := ⟨0, 1, 10⟩ }) := by
    unfold grantP
    rw [show (beginP V D 0).S = st0 from rfl, grantS_st0 (by decide)]
  have I1 := (I0.grant 1 0).1
  rw [hgS] at I1
  have hwk := I1.writeOk (by omega) (c := (1, 0, ⟨#[97]⟩)) (e := 1) (now := 0) (by show checkS ⟨0, 1, 10⟩ 1 0 = none; rw [checkS_at (by decide)]; decide) ⟨by decide, by decide⟩ rfl (by show V.J.held.length ≠ V.J.ring; rw [hheld, hring]; decide)
  obtain ⟨P2', hwe, I2, hd, _⟩ := hwk
  have hwr := fun p q => pwrite_ok p q _ _ I1 (by omega) (1, 0, ⟨#[97]⟩) (by decide) 1 0
  rw [hwe] at hwr
  have hn1 : ({ beginP V D 0 with S := ⟨0, 1, 10⟩ } : Pri).V.J.next = 1 := hnext
  rw [hn1] at hwr
  have hsl : (shipP P2').length = 1 := by
    unfold shipP
    have hh := hd.held
    rw [show ({ beginP V D 0 with S := ⟨0, 1, 10⟩ } : Pri).V.J.held = [] from hheld] at hh
    rw [hh]
    rfl
  have hsh := fun p q => pship_rt p q P2' _ I2 (by omega)
  have hD0 : ({ beginP V D 0 with S := ⟨0, 1, 10⟩ } : Pri).D = D := rfl
  rw [hsl] at hsh
  generalize ({ beginP V D 0 with S := ⟨0, 1, 10⟩ } : Pri) = Pg at *
  repeat (first | refine GO ?_ | refine NW fun _ => ?_)
  refine WL.step rfl (OP.callRO rfl rfl (psectors_ro 4 (by decide)) (fun _ _ => trivial) rfl rfl ?_)
  refine WL.step rfl (OP.callRT rfl rfl (dnew_rt 15) (fun _ _ => trivial) rfl rfl ?_)
  rintro _ _ ⟨q, rfl, rfl⟩
  repeat (first | refine GO ?_ | refine NW fun _ => ?_)
  refine WL.step rfl (OP.call (pre := [dsk q (Dsk.new 15)]) rfl rfl (hpo q) PS rfl rfl ?_)
  rintro _ _ ⟨p, rfl, rfl⟩
  repeat (first | refine GO ?_ | refine NW fun _ => ?_)
  refine WL.guardT rfl rfl rfl rfl (OP.callRO rfl rfl (psectors_ro 4 (by decide)) (fun _ _ => trivial) rfl rfl ?_)
  repeat (first | refine GO ?_ | refine NW fun _ => ?_)
  refine WL.guardT rfl rfl rfl rfl (OP.call (pre := [priA p q (beginP V D 0)]) rfl rfl (hgr p q) PS rfl rfl ?_)
  rintro _ _ ⟨E, hE, rfl⟩
  rw [hgS] at hE
  obtain ⟨rfl, rfl⟩ := hE
  rw [hgS]
  dsimp only [List.cons_append, List.nil_append]
  repeat (first | refine GD ?_ | refine NW fun _ => ?_)
  refine WL.step rfl (OP.call (pre := [priA p q Pg, dsk q Pg.D]) rfl rfl (hwr p q) (by rw [hD0]; exact PS) rfl rfl ?_)
  rintro _ _ ⟨rfl, rfl⟩
  dsimp only [List.cons_append, List.nil_append]
  repeat (first | refine GD ?_ | refine NW fun _ => ?_)
  refine WL.guardT rfl rfl rfl rfl (OP.callRT rfl rfl (hsh p q) (Ent.at (up_priA _ _ _) MM) rfl rfl ?_)
  rintro _ _ ⟨sa, sc, rfl, rfl⟩
  repeat (first | refine GD ?_ | refine NW fun _ => ?_)
  exact ret1 rfl ⟨rfl, MM⟩
/-- a call: its kind, an epoch, a time, a number, a write, what is kept -/
abbrev QOp := Int × Int × Int × Int × Call × Int
def encQ (o : QOp) : List Value := [.int .i64 o.1, .int .i64 o.2.1, .int .i64 o.2.2.1, .int .i64 o.2.2.2.1] ++ encCa o.2.2.2.2.1 ++ [.int .u64 o.2.2.2.2.2]
theorem encQ_len (o : QOp) : (encQ o).length = 8 := rfl
def QWf (o : QOp) : Prop := 0 ≤ o.2.2.2.2.2 ∧ o.2.2.2.2.2 < 18446744073709551616
theorem qop_of {x : List Value} (h : LfsOk [.int .i64, .int .i64, .int .i64, .int .i64, .int .i64, .int .i64, .str, .int .u64] x) : ∃ o : QOp, x = encQ o ∧ QWf o := by
  obtain ⟨k, s, rfl, _, h⟩ := h.int
  obtain ⟨e, s, rfl, _, h⟩ := h.int
  obtain ⟨t, s, rfl, _, h⟩ := h.int
  obtain ⟨n, s, rfl, _, h⟩ := h.int
  obtain ⟨a, s, rfl, _, h⟩ := h.int
  obtain ⟨b, s, rfl, _, h⟩ := h.int
  obtain ⟨d, s, rfl, _, h⟩ := h.str
  obtain ⟨kp, s, rfl, w, h⟩ := h.int
  rw [h.nil]
  exact ⟨(k, e, t, n, (a, b, d), kp), rfl, by have := wf_u64 w; unfold QWf; dsimp only; omega⟩
def fewQ (l : List QOp) : Bool := decide (l.length ≤ 100) && l.all (fun o => decide (o.2.2.2.2.1.2.2.size ≤ 100))
theorem fewQ_ok {l : List QOp} (h : fewQ l = true) : l.length ≤ 100 ∧ ∀ o ∈ l, o.2.2.2.2.1.2.2.size ≤ 100 := by
  unfold fewQ at h
  rw [Bool.and_eq_true] at h
  exact ⟨of_decide_eq_true h.1, fun o ho => of_decide_eq_true (List.all_eq_true.1 h.2 o ho)⟩
set_option maxHeartbeats 1000000 in
set_option maxRecDepth 10000 in
theorem pfew_ro (a : Option Addr) (n c : Nat) (l : List QOp) (hn : n = l.length) : RO G 52 [.slice a n c] (readS a n 8 (l.flatMap encQ)) (.bool (fewQ l)) := by
  refine RO.enter Tryz.func52 rfl (by decide) rfl Tryz.ntmps52 rfl (fun A hu hA => ?_) (up_readS _ _ _ _)
  have hE : ∀ {L}, A ∈ L → Ent L (readS a n 8 (l.flatMap encQ)) := fun m => Ent.mem m hu hA
  by_cases h80 : 100 < n
  · have hf : fewQ l = false := by unfold fewQ; rw [decide_eq_false (by omega)]; rfl
    rw [hf]
    repeat (first | refine GD ?_ | refine NW fun _ => ?_)
    exact ret1 rfl ⟨rfl, MM⟩
  have hfd : fewQ l = l.all (fun o => decide (o.2.2.2.2.1.2.2.size ≤ 100)) := by unfold fewQ; rw [decide_eq_true (by omega)]; rfl
  rw [hfd]
  repeat (first | refine GD ?_ | refine NW fun _ => ?_)
  refine WC.loop (σ := Nat) (fun k => k ≤ n ∧ ∀ o ∈ l.take k, o.2.2.2.2.1.2.2.size ≤ 100)
    (fun k => [(0, .val (.slice a n c)), (8, .val (.int .i64 n)), (9, .val (.int .i64 k))])
    (fun k => [A]) (fun k => n - k) 0 ⟨Nat.zero_le _, by simp⟩ ⟨rfl, rfl, rfl, trivial⟩ (Imp.refl _) ?_
  rintro k ⟨hk, hall⟩
  by_cases hlt : k < n
  rotate_left
  · have hk2 : k = l.length := by omega
    rw [hk2, List.take_length] at hall
    have ht : l.all (fun o => decide (o.2.2.2.2.1.2.2.size ≤ 100)) = true := List.all_eq_true.2 (fun o ho => decide_eq_true (hall o ho))
    rw [ht]
    repeat (first | refine GD ?_ | refine NW fun _ => ?_)
    exact ret1 rfl ⟨rfl, MM⟩
  have hlk : k < l.length := by omega
  have hmem : l[k] ∈ l := List.getElem_mem hlk
  have hsnoc : l.take (k + 1) = l.take k ++ [l[k]] := (List.take_append_getElem hlk).symm
  refine WC.fact (Ent.some (hE MM) (by omega)) ?_
  rintro ⟨b, off, rfl⟩
  repeat (first | refine GD ?_ | refine NW fun _ => ?_)
  refine WL.step rfl (OP.load1 (v := .string l[k].2.2.2.2.1.2.2) rfl rfl rfl rfl (by rw [Nat.add_assoc, Nat.add_assoc]; exact Ent.elF encQ_len (j := 6) (hE MM) hlk rfl rfl) rfl rfl ?_)
  generalize l[k] = o at *
  by_cases h300 : 100 < (o.2.2.2.2.1.2.2.size : Int)
  · have ht : l.all (fun o => decide (o.2.2.2.2.1.2.2.size ≤ 100)) = false := by
      cases hq : l.all (fun o => decide (o.2.2.2.2.1.2.2.size ≤ 100))
      · rfl
      · have := of_decide_eq_true (List.all_eq_true.1 hq o hmem)
        omega
    rw [ht]
    repeat (first | refine GD ?_ | refine NW fun _ => ?_)
    exact ret1 rfl ⟨rfl, MM⟩
  · repeat (first | refine GD ?_ | refine NW fun _ => ?_)
    refine ⟨k + 1, ⟨by omega, ?_⟩, by omega, ⟨rfl, rfl, rfl, trivial⟩, Imp.refl _⟩
    intro o' ho'
    rw [hsnoc] at ho'
    rcases List.mem_append.1 ho' with h | h
    · exact hall o' h
    · rw [List.mem_singleton.1 h]; omega
end Go.Proofs.YtleajkobmhhacaaGreatDoor
/- Contracts of functions of the given program, and plain laws on what they compute: parts of the proofs of laws. -/
namespace Go.Proofs.YtleajkobmhhacaaGreatDoor
open Go Go.GL

/-! PrimaryShips: the plain law -/
structure ShipI (P : Pri) (got : List Rec) : Prop where
  le : P.acked ≤ got.length
  lt : (got.length : Int) < P.V.J.next
  eq : ∀ (i : Nat) (x : Held), P.V.J.held[i]? = some x → P.acked.toNat + i < got.length → got[P.acked.toNat + i]? = some x.2
theorem ShipI.same {P P' : Pri} {got : List Rec} (S : ShipI P got) (h1 : P'.acked = P.acked) (h2 : P'.V.J.next = P.V.J.next) (h3 : P'.V.J.held = P.V.J.held) : ShipI P' got :=
  ⟨by rw [h1]; exact S.le, by rw [h2]; exact S.lt, by rw [h1, h3]; exact S.eq⟩
/-- one more record -/
theorem ShipI.app {P P' : Pri} {B : Int} {got : List Rec} (S : ShipI P got) (I : PInv P B) {x : Held} (h1 : P'.acked = P.acked) (h2 : P'.V.J.held = P.V.J.held ++ [x]) (h3 : P'.V.J.hd = P.V.J.hd) : ShipI P' got := by
  have hn : P.V.J.next = P.V.J.hd.first + P.V.J.held.length := rfl
  have hn' : P'.V.J.next = P'.V.J.hd.first + P'.V.J.held.length := rfl
  have ha := I.ack
  have h0 := I.V.j.hdr
  have hlt := S.lt
  rw [h3, h2, List.length_append] at hn'
  refine ⟨by rw [h1]; exact S.le, by rw [hn']; simp only [List.length_cons, List.length_nil]; omega, fun i y hy hi => ?_⟩
  rw [h1] at hi ⊢
  rw [h2] at hy
  by_cases hil : i < P.V.J.held.length
  · rw [List.getElem?_append_left hil] at hy
    exact S.eq i y hy hi
  · exfalso
    have : i < (P.V.J.held ++ [x]).length := (List.getElem?_eq_some_iff.1 hy).1
    rw [List.length_append] at this
    simp only [List.length_cons, List.length_nil] at this
    omega
theorem ShipI.letP {P : Pri} {B now : Int} {l : List Call} {got : List Rec} (S : ShipI P got) (I : PInv P B) (hB : B + 2 * l.length + 2 ≤ widest) (hl : ∀ c ∈ l, RightC c) : ShipI (letP P now l).2 got := by
  have key : ∀ k, k ≤ l.length → ShipI (Go.Proofs.YtleajkobmhhacaaGreatDoor.letP P now (l.take k)).2 got := by
    intro k
    induction k with
    | zero => intro _; exact S
    | succ k ih =>
      intro hk
      have hlt : k < l.length := by omega
      obtain ⟨I1, _⟩ := I.letK (now := now) hB hl k (by omega)
      rw [← List.take_append_getElem hlt, letP_snoc]
      obtain ⟨_, K, h⟩ := I1.let1 (by omega) (hl _ (List.getElem_mem hlt)) now
      rcases h with ⟨c, _, _, e⟩ | ⟨_, e, _⟩
      · rw [e]; exact (ih (by omega)).same rfl rfl rfl
      · exact (ih (by omega)).app I1 K.acked e K.hd
  have := key l.length (Nat.le_refl _)
  rwa [List.take_length] at this
theorem ShipI.write {P : Pri} {B : Int} {got : List Rec} (S : ShipI P got) (I : PInv P B) (hB : B + 4 ≤ widest) (c : Call) (e now : Int) : ShipI (writeP P c e now).2 got := by
  rcases (I.write hB c e now).2 with ⟨_, _, _, h⟩ | ⟨_, _, _, h, _⟩ | ⟨_, _, _, h⟩
  · rw [h]; exact S.same rfl rfl rfl
  · rw [h]; exact S.same rfl rfl rfl
  · exact S.app I h.k.acked h.held h.k.hd
theorem ShipI.thaw {P : Pri} {B : Int} {got : List Rec} (S : ShipI P got) (I : PInv P B) (hB : B + 12 ≤ widest) (round now : Int) : ShipI (thawP P round now).2.2 got := by
  have hf := I.few
  rcases (I.thaw hB round now).2 with ⟨_, _, h⟩ | ⟨_, _, _, h⟩
  · rw [h]; exact S
  · rw [h]; exact ShipI.letP (P := { P with G := P.G.opened }) (S.same rfl rfl rfl) I.opened (by omega) I.wr
theorem ShipI.tick {P : Pri} {B : Int} {got : List Rec} (S : ShipI P got) (I : PInv P B) (hB : B + 12 ≤ widest) (now : Int) : ShipI (tickP P now).2 got := by
  have hf := I.few
  rcases (I.tick hB now).2 with ⟨_, left, h⟩ | ⟨_, _, h⟩
  · rw [h]; exact S.same rfl rfl rfl
  · rw [h]; exact ShipI.letP (P := { P with G := P.G.opened }) (S.same rfl rfl rfl) I.opened (by omega) I.wr
theorem ShipI.mark {P : Pri} {B : Int} {got : List Rec} (S : ShipI P got) (I : PInv P B) (hB : B + 4 ≤ widest) (round : Int) : ShipI (markP P round).2 got := by
  rcases (I.markd hB round).2 with h | ⟨_, _, _, h | h⟩
  · rw [h.2]; exact S
  · rw [h.1]; exact S
  · exact S.app I h.2.2.2.2.2.2.2.2.2 h.2.2.1 h.2.2.2.2.1
theorem ShipI.ack {P : Pri} {B : Int} {got : List Rec} (S : ShipI P got) (I : PInv P B) (hB : B + 4 ≤ widest) {upto : Int} (hu : upto ≤ got.length) : ShipI (ackP P upto).2 got := by
  have ha := I.ack
  have h0 := I.V.j.hdr
  rcases (I.acks hB upto).2 with ⟨_, h⟩ | ⟨h1, h2, _, h3, _, h4, _, _, h5, _⟩
  · rw [h]; exact S
  · refine ⟨by rw [h3]; exact hu, by rw [h4]; exact S.lt, fun i x hx hi => ?_⟩
    rw [h3] at hi ⊢
    rw [h5, List.getElem?_drop] at hx
    have e : P.acked.toNat + ((upto - P.acked).toNat + i) = upto.toNat + i := by omega
    have := S.eq _ x hx (by omega)
    rwa [e] at this
theorem ShipI.crash {P : Pri} {B : Int} {got : List Rec} (S : ShipI P got) (I : PInv P B) (hB : B + 4 ≤ widest) (keep : Int) : ShipI (crashP P keep) got := by
  obtain ⟨V', D', _, h, _, _, e2, _, e4, e5, _⟩ := I.crash hB keep
  rw [h]
  refine S.same ?_ e5 e2
  show V'.J.hd.first - 1 = _
  rw [e4, I.ack]
/-- what is shipped, and is there already -/
theorem shipP_get {P : Pri} {k : Nat} (h : k < (shipP P).length) : ∃ x, P.V.J.held[k]? = some x ∧ (shipP P)[k] = x.2 ∧ k < P.V.J.held.length := by
  unfold shipP at h ⊢
  have h2 : k < P.V.J.held.length := by rw [List.length_take, List.length_map] at h; omega
  exact ⟨P.V.J.held[k], List.getElem?_eq_getElem h2, by rw [List.getElem_take, List.getElem_map], h2⟩
theorem ShipI.more {P : Pri} {B : Int} {got : List Rec} (S : ShipI P got) (I : PInv P B) {k : Nat} {x : Held} (hx : P.V.J.held[k]? = some x) (h : P.acked.toNat + k = got.length) : ShipI P (got ++ [x.2]) := by
  have ha := I.ack
  have h0 := I.V.j.hdr
  have hk := (List.getElem?_eq_some_iff.1 hx).1
  have hn : P.V.J.next = P.V.J.hd.first + P.V.J.held.length := rfl
  have hle := S.le
  refine ⟨by rw [List.length_append, List.length_singleton]; omega, by rw [List.length_append, List.length_singleton]; omega, fun i y hy hi => ?_⟩
  rw [List.length_append, List.length_singleton] at hi
  by_cases hil : P.acked.toNat + i < got.length
  · rw [List.getElem?_append_left hil]; exact S.eq i y hy hil
  · have : i = k := by omega
    subst this
    rw [hx] at hy
    cases hy
    rw [h, List.getElem?_append_right (Nat.le_refl _), Nat.sub_self]
    rfl
end Go.Proofs.YtleajkobmhhacaaGreatDoor
/- Contracts of functions of the given program, and plain laws on what they compute: parts of the proofs of laws. -/
namespace Go.Proofs.YtleajkobmhhacaaGreatDoor
open Go Go.GL
theorem rec_of {x : List Value} (h : LfsOk [.int .i64, .int .i64, .int .i64, .str, .int .i64] x) : ∃ r : Rec, x = encR r ∧ (r.2.2.2.1.size ≤ maxLen ∧ (Lit.int .i64 r.1).wf = true ∧ (Lit.int .i64 r.2.1).wf = true ∧ (Lit.int .i64 r.2.2.1).wf = true ∧ (Lit.int .i64 r.2.2.2.2).wf = true) := by
  obtain ⟨n0, s, rfl, w0, h⟩ := h.int
  obtain ⟨n1, s, rfl, w1, h⟩ := h.int
  obtain ⟨n2, s, rfl, w2, h⟩ := h.int
  obtain ⟨n3, s, rfl, w3, h⟩ := h.str
  obtain ⟨n4, s, rfl, w4, h⟩ := h.int
  rw [h.nil]
  exact ⟨(n0, n1, n2, n3, n4), rfl, w3, w0, w1, w2, w4⟩
end Go.Proofs.YtleajkobmhhacaaGreatDoor
/- Contracts of functions of the given program, and plain laws on what they compute: parts of the proofs of laws. -/

namespace Go.Proofs.YtleajkobmhhacaaGreatDoor
open Go Go.GL

theorem encR_len (r : Rec) : (encR r).length = 5 := rfl
set_option maxHeartbeats 2000000 in
set_option maxRecDepth 10000 in
theorem jsame_ro (a1 a2 : Option Addr) (n1 c1 n2 c2 : Nat) (l1 l2 : List Rec) (h1 : n1 = l1.length) (h2 : n2 = l2.length) (hs : n1 < 1000000) : RO G 58 [.slice a1 n1 c1, .slice a2 n2 c2] (fun h => readS a1 n1 5 (l1.flatMap encR) h ∧ readS a2 n2 5 (l2.flatMap encR) h) (.bool (decide (l1 = l2))) := by
  refine RO.enter Tryz.func58 rfl (by decide) rfl Tryz.ntmps58 rfl (fun A hu hA => ?_) (up_and (up_readS _ _ _ _) (up_readS _ _ _ _))
  have hE1 : ∀ {L}, A ∈ L → Ent L (readS a1 n1 5 (l1.flatMap encR)) := fun m => Ent.mem m hu fun k x => (hA k x).1
  have hE2 : ∀ {L}, A ∈ L → Ent L (readS a2 n2 5 (l2.flatMap encR)) := fun m => Ent.mem m hu fun k x => (hA k x).2
  by_cases hne : n1 = n2
  rotate_left
  · have : l1 ≠ l2 := fun e => hne (by rw [h1, h2, e])
    repeat (first | refine GD ?_ | refine NW fun _ => ?_)
    exact ret1 rfl ⟨by simp [this], MM⟩
  subst hne
  repeat (first | refine GD ?_ | refine NW fun _ => ?_)
  refine WC.loop (σ := Nat) (fun k => k ≤ n1 ∧ ∀ j, j < k → l1[j]? = l2[j]?)
    (fun k => [(0, .val (.slice a1 n1 c1)), (1, .val (.slice a2 n1 c2)), (12, .val (.int .i64 n1)), (13, .val (.int .i64 k))])
    (fun k => [A]) (fun k => n1 - k) 0 ⟨Nat.zero_le _, fun j hj => by omega⟩ ⟨rfl, rfl, rfl, rfl, trivial⟩ (Imp.refl _) ?_
  rintro k ⟨hk, hall⟩
  by_cases hlt : k < n1
  rotate_left
  · repeat (first | refine GD ?_ | refine NW fun _ => ?_)
    refine ret1 rfl ⟨?_, MM⟩
    have : l1 = l2 := List.ext_getElem? fun i => by
      by_cases hi : i < k
      · exact hall i hi
      · rw [List.getElem?_eq_none (by omega), List.getElem?_eq_none (by omega)]
    simp [this]
  have hl1 : k < l1.length := by omega
  have hl2 : k < l2.length := by omega
  repeat (first | refine GD ?_ | refine NW fun _ => ?_)
  refine WC.fact (Ent.some (hE1 MM) (by omega)) ?_
  rintro ⟨b, off, rfl⟩
  refine WC.fact (Ent.some (hE2 MM) (by omega)) ?_
  rintro ⟨b', off', rfl⟩
  refine RD 9 9 (_) ?_
  refine WP 0 ?_
  refine WP 1 ?_
  refine WP 2 ?_
  refine VL 3 (.agg (encR l1[k]).toArray) rfl rfl rfl rfl (.inr ⟨rfl, encR l1[k], rfl, rfl, Ent.elA encR_len (hE1 MM) hl1⟩) ?_
  refine WP 4 ?_
  refine WP 5 ?_
  refine WP 6 ?_
  refine VL 7 (.agg (encR l2[k]).toArray) rfl rfl rfl rfl (.inr ⟨rfl, encR l2[k], rfl, rfl, Ent.elA encR_len (hE2 MM) hl2⟩) ?_
  refine VQ 8 rfl (Quiet.eqAgg (EqAgg.neq (xs := encR l1[k]) (ys := encR l2[k]) rfl rfl rfl rfl (by kernel_rfl) (by kernel_rfl) (by kernel_rfl) (eq_rec _ _))) ?_
  refine DN ?_
  by_cases he : l1[k] = l2[k]
  · rw [decide_eq_true he]
    repeat (first | refine GD ?_ | refine NW fun _ => ?_)
    exact ⟨k + 1, ⟨by omega, fun j hj => by
      by_cases e : j = k
      · subst e; rw [List.getElem?_eq_getElem hl1, List.getElem?_eq_getElem hl2, he]
      · exact hall j (by omega)⟩, by omega, ⟨rfl, rfl, rfl, rfl, trivial⟩, Imp.refl _⟩
  · rw [decide_eq_false he]
    repeat (first | refine GD ?_ | refine NW fun _ => ?_)
    refine ret1 rfl ⟨?_, MM⟩
    have : l1 ≠ l2 := fun e => he (by subst e; rfl)
    simp [this]
end Go.Proofs.YtleajkobmhhacaaGreatDoor
