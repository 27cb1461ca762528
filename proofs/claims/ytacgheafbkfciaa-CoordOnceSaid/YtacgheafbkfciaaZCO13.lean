/- Contracts of functions of the given program, and plain laws: parts of the proofs of laws. -/
import Derived.Test.YtacgheafbkfciaaZCO4
import Derived.Test.YtacgheafbkfciaaZCO12
/- Contracts of functions of the given program, and plain laws on what they compute: parts of the proofs of laws. -/

namespace Go.Proofs.Ytacgheafbkfciaa
open Go Go.GL

set_option maxHeartbeats 64000000 in
set_option maxRecDepth 10000 in
theorem conce_ro (a : Option Addr) (n c : Nat) (fl : List Int) (a1 : Option Addr) (n1 c1 : Nat) (ops : List COp) (hn : n = fl.length) (hn1 : n1 = ops.length) (hk : ∀ o ∈ ops, 0 ≤ o.2.2.2.2.2 ∧ o.2.2.2.2.2 < 18446744073709551616) :
    RO G 9 [.slice a n c, .slice a1 n1 c1] (fun h => readS a n 1 (fl.map vI) h ∧ readS a1 n1 8 (ops.flatMap encCo) h) (.bool true) := by
  refine RO.enter Try.func9 rfl (by decide) rfl Try.ntmps9 rfl (fun A hu hA' => ?_) (up_and (up_readS _ _ _ _) (up_readS _ _ _ _))
  have hA : ∀ h, A h → readS a n 1 (fl.map vI) h := fun h x => (hA' h x).1
  have hE1 : ∀ {L}, A ∈ L → Ent L (readS a1 n1 8 (ops.flatMap encCo)) := fun m => Ent.mem m hu fun k x => (hA' k x).2
  have hww : widest = 1152921504606846975 := rfl
  repeat (first | refine GD ?_ | refine NW fun _ => ?_)
  refine WL.step rfl (OP.callRO rfl rfl cawake_ro (fun _ _ => trivial) rfl rfl ?_)
  by_cases h150 : 150 < n1
  · repeat (first | refine GD ?_ | refine NW fun _ => ?_)
    refine WL.step rfl (OP.callRO rfl rfl cawake_ro (fun _ _ => trivial) rfl rfl ?_)
    repeat (first | refine GD ?_ | refine NW fun _ => ?_)
    exact ret1 rfl ⟨rfl, MM⟩
  by_cases h10 : 10 < n
  · repeat (first | refine GD ?_ | refine NW fun _ => ?_)
    refine WL.step rfl (OP.callRO rfl rfl cawake_ro (fun _ _ => trivial) rfl rfl ?_)
    repeat (first | refine GD ?_ | refine NW fun _ => ?_)
    exact ret1 rfl ⟨rfl, MM⟩
  repeat (first | refine GD ?_ | refine NW fun _ => ?_)
  refine WL.step rfl (OP.callRT rfl rfl (dnew_rt 202) (fun _ _ => trivial) rfl rfl ?_)
  rintro _ _ ⟨q, rfl, rfl⟩
  repeat (first | refine GD ?_ | refine NW fun _ => ?_)
  cases hnw : newM fl f0 with
  | error vc =>
    obtain ⟨bv, ce⟩ := vc
    have hop := copen_ok q 200 (a, n, c) (Dsk.new 202) A hu fl hA (show n < 1000000 by omega) (Dsk.new_ok 202) (by decide) (by decide) (fun J2 D2 h => by
      obtain ⟨J, D, ho, _, _, _, _, I⟩ := CInv.fresh (n := 202) (ring := 200) (by decide) (by decide) (by decide) (by decide) (l := []) (f := f0) rfl
      have ho' : openM (Dsk.new 202) 200 = .ok (J, D) := ho
      rw [ho'] at h; cases h; exact ⟨I.jr (by omega), I.J.right⟩)
    unfold OpenCo at hop
    rw [show openC (Dsk.new 202) 200 fl = .error ([(coordT, 0), (memT, bv)], ce) by unfold openC; rw [hnw]] at hop
    refine WL.step rfl (OP.call (pre := [dsk q (Dsk.new 202), A]) rfl rfl hop PS rfl rfl ?_)
    rintro _ _ ⟨e, E, hE, rfl, rfl⟩
    obtain ⟨y, ch, hc1, rfl, rfl⟩ := isEr_one hE (by simp)
    repeat (first | refine GD ?_ | refine NW fun _ => ?_)
    exact ret1 rfl ⟨rfl, MM⟩
  | ok f =>
  obtain ⟨J, D, ho, hr, hh, hoc, hst, I0⟩ := CInv.fresh (n := 202) (ring := 200) (by decide) (by decide) (by decide) (by decide) hnw
  have ho' : openM (Dsk.new 202) 200 = .ok (J, D) := ho
  have hoc' : openC (Dsk.new 202) 200 fl = .ok ⟨J, D, f, [], rnd0, 0, 0⟩ := hoc
  have hop := copen_ok q 200 (a, n, c) (Dsk.new 202) A hu fl hA (show n < 1000000 by omega) (Dsk.new_ok 202) (by decide) (by decide) (fun J2 D2 h => by
    rw [ho'] at h; cases h; exact ⟨I0.jr (by omega), I0.J.right⟩)
  unfold OpenCo at hop
  rw [hoc'] at hop
  refine WL.step rfl (OP.call (pre := [dsk q (Dsk.new 202), A]) rfl rfl hop PS rfl rfl ?_)
  rintro _ _ ⟨p, g, rfl, rfl⟩
  repeat (first | refine GD ?_ | refine NW fun _ => ?_)
  refine WC.imp (Imp.trans irowsA_nil (Imp.trans (Imp.nilS 23 1) (Imp.nilS 63 3))) ?_
  refine WC.loop (σ := Nat × Crd × List IRow × Option Addr × Nat × List Cmd × Option Addr × Nat) (fun s => s.1 ≤ n1 ∧ OnceI s.1 f s.2.1 s.2.2.1 s.2.2.2.2.2.1)
    (fun s => [(0, .val (.slice a n c)), (1, .val (.slice a1 n1 c1)), (5, .val (.pointer (some ⟨p, 0, none⟩))), (7, .val (.slice s.2.2.2.1 s.2.2.1.length s.2.2.2.2.1)), (8, .val (.slice s.2.2.2.2.2.2.1 s.2.2.2.2.2.1.length s.2.2.2.2.2.2.2)), (44, .val (.int .i64 n1)), (45, .val (.int .i64 s.1))])
    (fun s => [irowsA s.2.2.1, ownS s.2.2.2.1 s.2.2.1.length s.2.2.2.2.1 23 1 (s.2.2.1.map irowV), ownS s.2.2.2.2.2.2.1 s.2.2.2.2.2.1.length s.2.2.2.2.2.2.2 63 3 (s.2.2.2.2.2.1.flatMap encCmd), crdA p q g (a, n, c) s.2.1, dsk q s.2.1.D, A]) (fun s => n1 - s.1)
    (0, ⟨J, D, f, [], rnd0, 0, 0⟩, [], none, 0, [], none, 0) ⟨Nat.zero_le _, I0, rfl, hr, rfl, (fun j h => nomatch h), Nat.zero_le _⟩ ⟨rfl, rfl, rfl, rfl, rfl, rfl, rfl, trivial⟩ II ?_
  rintro ⟨k, C, rows, ma, mc, told, ta, tc⟩ ⟨hk1, O⟩
  dsimp only at hk1 O ⊢
  by_cases hlt : k < n1
  rotate_left
  · repeat (first | refine GD ?_ | refine NW fun _ => ?_)
    exact ret1 rfl ⟨rfl, MM⟩
  have hlk : k < ops.length := by omega
  refine WC.fact (Ent.some (hE1 MM) (by omega)) ?_
  rintro ⟨b, off, rfl⟩
  have hkk := hk ops[k] (List.getElem_mem hlk)
  have her : ∀ {L}, A ∈ L → Ent L (cellsAt b (off + k * 8) (encCo ops[k])) := fun m => Ent.elA encCo_len (hE1 m) hlk
  generalize ops[k] = o at *
  obtain ⟨kd, vol, ⟨ck, cv, cn⟩, inn, tld, keep⟩ := o
  dsimp only at hkk
  have hrl := O.len
  have htl := O.told
  have hring := O.ring
  have hjl := O.I.J.len
  have hlast := O.I.last
  rw [hring] at hjl
  repeat (first | refine GD ?_ | refine NW fun _ => ?_)
  refine WL.step rfl (OP.loadA (l := encCo (kd, vol, (ck, cv, cn), inn, tld, keep)) rfl rfl rfl rfl (her MM) rfl rfl rfl ?_)
  rw [show encCo (kd, vol, (ck, cv, cn), inn, tld, keep) = [.int .i64 kd, .int .i64 vol, .int .i64 ck, .int .i64 cv, .int .i64 cn, .bool inn, .bool tld, .int .u64 keep] from rfl]
  by_cases k1 : kd = 1
  · subst k1
    have hcb := cbegin_ok p q g (a, n, c) C _ O.I (by omega)
    unfold BeginCo at hcb
    cases hbg : beginC C with
    | error lc =>
      obtain ⟨le, ce⟩ := lc
      rw [hbg] at hcb
      have hle : le ≠ [] := by
        unfold beginC at hbg
        split at hbg
        · cases hbg; simp
        · split at hbg
          · cases hbg; simp
          · split at hbg
            · cases hbg; simp
            · cases hbg
      have O2 : OnceI (k + 1) f C rows told := O.keep (O.I.mono (by omega)) rfl rfl rfl (.inl rfl) (by omega)
      repeat (first | refine GD ?_ | refine NW fun _ => ?_)
      refine WL.step rfl (OP.call (pre := [crdA p q g _ _, dsk q C.D]) rfl rfl hcb PS rfl rfl ?_)
      rintro _ _ ⟨e, E, hE, rfl, rfl⟩
      obtain ⟨y, ch, hc1, rfl, rfl⟩ := isEr_one hE hle
      have hrl2 := O2.len
      have hrnum := O2.I.R.num
      have hmk2 := O2.I.marked
      have hlast2 := O2.I.last
      have hrow2 := O2.row
      have hjl2 := O2.I.J.len
      rw [O2.ring] at hjl2
      repeat (first | refine GD ?_ | refine NW fun _ => ?_)
      refine WL.step rfl (OP.callRO rfl rfl (crounds_ro p q g (a, n, c) C) (Ent.at (up_crdA _ _ _ _ _) MM) rfl rfl ?_)
      by_cases hz : C.R.number = 0
      · repeat (first | refine GD ?_ | refine NW fun _ => ?_)
        refine WC.loop (σ := Nat) (fun j => j ≤ rows.length)
          (fun j => [(0, .val (.slice a n c)), (1, .val (.slice (some ⟨b, off, none⟩) n1 c1)), (5, .val (.pointer (some ⟨p, 0, none⟩))), (7, .val (.slice ma rows.length mc)), (8, .val (.slice ta told.length tc)), (44, .val (.int .i64 n1)), (45, .val (.int .i64 k)), (157, .val (.int .i64 rows.length)), (158, .val (.int .i64 j))])
          (fun _ => [irowsA rows, ownS ma rows.length mc 23 1 (rows.map irowV), ownS ta told.length tc 63 3 (told.flatMap encCmd), crdA p q g (a, n, c) C, dsk q C.D, A]) (fun j => rows.length - j) 0 (Nat.zero_le _) ⟨rfl, rfl, rfl, rfl, rfl, rfl, rfl, rfl, rfl, trivial⟩ II ?_
        intro j hj
        by_cases hjl : j < rows.length
        · have hgt := gat_rt g C.f C.ch ((j : Int) + 1) O2.I.f4 O2.I.vols O2.I.few
          rw [show listM (atM ((j : Int) + 1) C.f C.ch) = (rows[j]).2.2 from (hrow2 j hjl).symm] at hgt
          have h4 : (rows[j]).2.2.length ≤ 4 := by
            rw [hrow2 j hjl]
            have := listM_len (atM ((j : Int) + 1) C.f C.ch)
            rw [atM_length, O2.I.f4] at this
            exact this
          refine WC.fact (Ent.some (Ent.own (a := ma) (n := rows.length) (cap := mc) (T := 23) (size := 1) (cs := rows.map irowV) MM) (by omega)) ?_
          rintro ⟨bM, oM, rfl⟩
          repeat (first | refine GD ?_ | refine NW fun _ => ?_)
          refine RD 11 11 (_) ?_
          refine WP 0 ?_
          refine WP 2 ?_
          refine WP 3 ?_
          refine WP 5 ?_
          refine WP 6 ?_
          refine WP 7 ?_
          refine VL 8 (irowV rows[j]) rfl rfl rfl rfl (.inl ⟨rfl, Ent.elem (i := j * 1) (Ent.own (T := 23) (n := rows.length) (cap := mc) MM) rfl (irowsV_get hjl)⟩) ?_
          refine WH.only 1 rfl rfl (by kernel_rfl) rfl (OP.callRO rfl rfl (cgroup_ro p q g (a, n, c) C) (Ent.at (up_crdA _ _ _ _ _) MM) rfl rfl ⟨fun _ => II, ?_⟩)
          refine WH.only 4 rfl rfl (by kernel_rfl) rfl (OP.callRT rfl rfl hgt (crd_grp (C := C) (p := p) (q := q) (fv := (a, n, c)) MM) rfl rfl (fun x3 E3 hE3 => ?_))
          obtain ⟨aO, cO, rfl, rfl⟩ := hE3
          refine ⟨fun _ => II, ?_⟩
          refine WH.only 9 rfl rfl (by kernel_rfl) rfl (OP.callRO rfl rfl (csame_ro aO (rows[j]).1 (rows[j]).2.2.length cO (rows[j]).2.2.length (rows[j]).2.1 (rows[j]).2.2 (rows[j]).2.2 rfl rfl (by omega)) (Ent.and (Ent.own (T := 3) (cap := cO) MM) (irowsA_get MM hjl)) rfl rfl ⟨fun _ => II, ?_⟩)
          rw [decide_eq_true (rfl : (rows[j]).2.2 = (rows[j]).2.2)]
          refine WP 10 ?_
          refine DN ?_
          repeat (first | refine GD ?_ | refine NW fun _ => ?_)
          exact ⟨j + 1, by omega, by omega, ⟨rfl, rfl, rfl, rfl, rfl, rfl, rfl, rfl, rfl, trivial⟩, II⟩
        have hje : j = rows.length := by omega
        subst hje
        repeat (first | refine GD ?_ | refine NW fun _ => ?_)
        exact ⟨(k + 1, C, rows, ma, mc, told, ta, tc), ⟨by dsimp only; omega, O2⟩, by dsimp only; omega, ⟨rfl, rfl, rfl, rfl, rfl, rfl, rfl, trivial⟩, II⟩
      · have hz2 : C.R.number = C.last := hrnum.resolve_left hz
        repeat (first | refine GD ?_ | refine NW fun _ => ?_)
        refine WC.loop (σ := Nat) (fun j => j ≤ rows.length)
          (fun j => [(0, .val (.slice a n c)), (1, .val (.slice (some ⟨b, off, none⟩) n1 c1)), (5, .val (.pointer (some ⟨p, 0, none⟩))), (7, .val (.slice ma rows.length mc)), (8, .val (.slice ta told.length tc)), (44, .val (.int .i64 n1)), (45, .val (.int .i64 k)), (157, .val (.int .i64 rows.length)), (158, .val (.int .i64 j))])
          (fun _ => [irowsA rows, ownS ma rows.length mc 23 1 (rows.map irowV), ownS ta told.length tc 63 3 (told.flatMap encCmd), crdA p q g (a, n, c) C, dsk q C.D, A]) (fun j => rows.length - j) 0 (Nat.zero_le _) ⟨rfl, rfl, rfl, rfl, rfl, rfl, rfl, rfl, rfl, trivial⟩ II ?_
        intro j hj
        by_cases hjl : j < rows.length
        · have hgt := gat_rt g C.f C.ch ((j : Int) + 1) O2.I.f4 O2.I.vols O2.I.few
          rw [show listM (atM ((j : Int) + 1) C.f C.ch) = (rows[j]).2.2 from (hrow2 j hjl).symm] at hgt
          have h4 : (rows[j]).2.2.length ≤ 4 := by
            rw [hrow2 j hjl]
            have := listM_len (atM ((j : Int) + 1) C.f C.ch)
            rw [atM_length, O2.I.f4] at this
            exact this
          refine WC.fact (Ent.some (Ent.own (a := ma) (n := rows.length) (cap := mc) (T := 23) (size := 1) (cs := rows.map irowV) MM) (by omega)) ?_
          rintro ⟨bM, oM, rfl⟩
          repeat (first | refine GD ?_ | refine NW fun _ => ?_)
          refine RD 11 11 (_) ?_
          refine WP 0 ?_
          refine WP 2 ?_
          refine WP 3 ?_
          refine WP 5 ?_
          refine WP 6 ?_
          refine WP 7 ?_
          refine VL 8 (irowV rows[j]) rfl rfl rfl rfl (.inl ⟨rfl, Ent.elem (i := j * 1) (Ent.own (T := 23) (n := rows.length) (cap := mc) MM) rfl (irowsV_get hjl)⟩) ?_
          refine WH.only 1 rfl rfl (by kernel_rfl) rfl (OP.callRO rfl rfl (cgroup_ro p q g (a, n, c) C) (Ent.at (up_crdA _ _ _ _ _) MM) rfl rfl ⟨fun _ => II, ?_⟩)
          refine WH.only 4 rfl rfl (by kernel_rfl) rfl (OP.callRT rfl rfl hgt (crd_grp (C := C) (p := p) (q := q) (fv := (a, n, c)) MM) rfl rfl (fun x3 E3 hE3 => ?_))
          obtain ⟨aO, cO, rfl, rfl⟩ := hE3
          refine ⟨fun _ => II, ?_⟩
          refine WH.only 9 rfl rfl (by kernel_rfl) rfl (OP.callRO rfl rfl (csame_ro aO (rows[j]).1 (rows[j]).2.2.length cO (rows[j]).2.2.length (rows[j]).2.1 (rows[j]).2.2 (rows[j]).2.2 rfl rfl (by omega)) (Ent.and (Ent.own (T := 3) (cap := cO) MM) (irowsA_get MM hjl)) rfl rfl ⟨fun _ => II, ?_⟩)
          rw [decide_eq_true (rfl : (rows[j]).2.2 = (rows[j]).2.2)]
          refine WP 10 ?_
          refine DN ?_
          repeat (first | refine GD ?_ | refine NW fun _ => ?_)
          exact ⟨j + 1, by omega, by omega, ⟨rfl, rfl, rfl, rfl, rfl, rfl, rfl, rfl, rfl, trivial⟩, II⟩
        have hje : j = rows.length := by omega
        subst hje
        repeat (first | refine GD ?_ | refine NW fun _ => ?_)
        exact ⟨(k + 1, C, rows, ma, mc, told, ta, tc), ⟨by dsimp only; omega, O2⟩, by dsimp only; omega, ⟨rfl, rfl, rfl, rfl, rfl, rfl, rfl, trivial⟩, II⟩
    | ok x =>
      obtain ⟨⟨nb, l⟩, C1⟩ := x
      rw [hbg] at hcb
      obtain ⟨I1, hnb, hl1, hch1, hf1, -, -, hr1, -, -, hmne, hll, -⟩ := O.I.begin (by omega) hbg
      have hgt := gat_rt g C1.f C1.ch nb I1.f4 I1.vols I1.few
      rw [show listM (atM nb C1.f C1.ch) = C.mem nb by unfold Crd.mem; rw [hf1, hch1]] at hgt
      have hlm : l.length = (C.mem nb).length := by rw [hll, List.length_map]
      have hm4 : (C.mem nb).length ≤ 4 := by
        have := listM_len (atM nb C.f C.ch)
        rw [atM_length, O.I.f4] at this
        exact this
      have hnb2 : nb = (rows.length : Int) + 1 := by omega
      repeat (first | refine GD ?_ | refine NW fun _ => ?_)
      refine WL.step rfl (OP.call (pre := [crdA p q g _ _, dsk q C.D]) rfl rfl hcb PS rfl rfl ?_)
      rintro _ _ ⟨_, _, ⟨xa, xc, rfl, rfl⟩, rfl, rfl⟩
      have hob := fun (aO : Option Addr) (cO : Nat) => O.begun (B := 3 + 4 * (k : Int)) rfl (by omega) hbg (aO, cO, C.mem nb) rfl
      generalize hmm : C.mem nb = mm at *
      subst hnb2
      repeat (first | refine GD ?_ | refine NW fun _ => ?_)
      refine WL.step rfl (OP.callRO rfl rfl (cgroup_ro p q g (a, n, c) C1) (Ent.at (up_crdA _ _ _ _ _) MM) rfl rfl ?_)
      repeat (first | refine GD ?_ | refine NW fun _ => ?_)
      refine WL.step rfl (OP.callRT rfl rfl hgt (crd_grp (C := C1) (p := p) (q := q) (fv := (a, n, c)) MM) rfl rfl ?_)
      rintro _ _ ⟨aO, cO, rfl, rfl⟩
      have O2 := hob aO cO
      repeat (first | refine GD ?_ | refine NW fun _ => ?_)
      rename_i bS
      refine WL.step rfl (OP.append (ds := [irowV (aO, cO, mm)]) rfl rfl rfl rfl rfl rfl rfl rfl rfl (show Imp _ (ownS ma rows.length mc 23 1 (rows.map irowV) :: _) from P1) (Ent.own (T := 23) MM) rfl (by omega) (by omega) rfl rfl (fun a' cap' => ?_))
      refine WL.imp (M := [irowsA (rows ++ [(aO, cO, mm)]), ownS a' (rows.length + 1) cap' 23 1 (rows.map irowV ++ [irowV (aO, cO, mm)]), ownS xa l.length xc 63 3 (l.flatMap encCmd), crdA p q g (a, n, c) C1, dsk q C1.D, A]) (Imp.trans (show Imp _ (irowsA rows :: irowO (aO, cO, mm) :: [ownS a' (rows.length + 1) cap' 23 1 (rows.map irowV ++ [irowV (aO, cO, mm)]), ownS xa l.length xc 63 3 (l.flatMap encCmd), crdA p q g (a, n, c) C1, dsk q C1.D, A]) from II) irowsA_snoc) ?_
      rw [show rows.map irowV ++ [irowV (aO, cO, mm)] = (rows ++ [(aO, cO, mm)]).map irowV by rw [List.map_append]; rfl]
      generalize hrw : rows ++ [(aO, cO, mm)] = rows2 at *
      have hr2l : rows2.length = rows.length + 1 := by rw [← hrw, List.length_append]; rfl
      have hr2g : rows2[rows.length]? = some (aO, cO, mm) := by rw [← hrw]; simp
      have hr2v : (rows2.map irowV)[rows.length * 1]? = some (.slice aO mm.length cO) := by
        rw [Nat.mul_one, List.getElem?_map, hr2g]; rfl
      rw [← hr2l]
      refine WL.fact (Ent.some (Ent.own (a := a') (n := rows2.length) (cap := cap') (T := 23) (size := 1) (cs := rows2.map irowV) MM) (by omega)) ?_
      rintro ⟨bM, oM, rfl⟩
      repeat (first | refine GD ?_ | refine NW fun _ => ?_)
      rw [show ((rows.length : Int) + 1 - 1).toNat = rows.length by omega]
      refine WL.step rfl (OP.load1 (v := .slice aO mm.length cO) rfl rfl rfl rfl (Ent.elem (i := rows.length * 1) (Ent.own (T := 23) (n := rows2.length) (cap := cap') MM) rfl hr2v) rfl rfl ?_)
      have hlm2 : (l.length : Int) = mm.length := by omega
      generalize (some ⟨bM, oM, none⟩ : Option Addr) = aM at *
      have hrl2 := O2.len
      have hrnum := O2.I.R.num
      have hmk2 := O2.I.marked
      have hlast2 := O2.I.last
      have hrow2 := O2.row
      have hjl2 := O2.I.J.len
      rw [O2.ring] at hjl2
      repeat (first | refine GD ?_ | refine NW fun _ => ?_)
      refine WL.step rfl (OP.callRO rfl rfl (crounds_ro p q g (a, n, c) C1) (Ent.at (up_crdA _ _ _ _ _) MM) rfl rfl ?_)
      by_cases hz : C1.R.number = 0
      · repeat (first | refine GD ?_ | refine NW fun _ => ?_)
        refine WC.loop (σ := Nat) (fun j => j ≤ rows2.length)
          (fun j => [(0, .val (.slice a n c)), (1, .val (.slice (some ⟨b, off, none⟩) n1 c1)), (5, .val (.pointer (some ⟨p, 0, none⟩))), (7, .val (.slice aM rows2.length cap')), (8, .val (.slice xa l.length xc)), (44, .val (.int .i64 n1)), (45, .val (.int .i64 k)), (157, .val (.int .i64 rows2.length)), (158, .val (.int .i64 j))])
          (fun _ => [irowsA rows2, ownS aM rows2.length cap' 23 1 (rows2.map irowV), ownS xa l.length xc 63 3 (l.flatMap encCmd), crdA p q g (a, n, c) C1, dsk q C1.D, A]) (fun j => rows2.length - j) 0 (Nat.zero_le _) ⟨rfl, rfl, rfl, rfl, rfl, rfl, rfl, rfl, rfl, trivial⟩ II ?_
        intro j hj
        by_cases hjl : j < rows2.length
        · have hgt := gat_rt g C1.f C1.ch ((j : Int) + 1) O2.I.f4 O2.I.vols O2.I.few
          rw [show listM (atM ((j : Int) + 1) C1.f C1.ch) = (rows2[j]).2.2 from (hrow2 j hjl).symm] at hgt
          have h4 : (rows2[j]).2.2.length ≤ 4 := by
            rw [hrow2 j hjl]
            have := listM_len (atM ((j : Int) + 1) C1.f C1.ch)
            rw [atM_length, O2.I.f4] at this
            exact this
          refine WC.fact (Ent.some (Ent.own (a := aM) (n := rows2.length) (cap := cap') (T := 23) (size := 1) (cs := rows2.map irowV) MM) (by omega)) ?_
          rintro ⟨bM, oM, rfl⟩
          repeat (first | refine GD ?_ | refine NW fun _ => ?_)
          refine RD 11 11 (_) ?_
          refine WP 0 ?_
          refine WP 2 ?_
          refine WP 3 ?_
          refine WP 5 ?_
          refine WP 6 ?_
          refine WP 7 ?_
          refine VL 8 (irowV rows2[j]) rfl rfl rfl rfl (.inl ⟨rfl, Ent.elem (i := j * 1) (Ent.own (T := 23) (n := rows2.length) (cap := cap') MM) rfl (irowsV_get hjl)⟩) ?_
          refine WH.only 1 rfl rfl (by kernel_rfl) rfl (OP.callRO rfl rfl (cgroup_ro p q g (a, n, c) C1) (Ent.at (up_crdA _ _ _ _ _) MM) rfl rfl ⟨fun _ => II, ?_⟩)
          refine WH.only 4 rfl rfl (by kernel_rfl) rfl (OP.callRT rfl rfl hgt (crd_grp (C := C1) (p := p) (q := q) (fv := (a, n, c)) MM) rfl rfl (fun x3 E3 hE3 => ?_))
          obtain ⟨aO, cO, rfl, rfl⟩ := hE3
          refine ⟨fun _ => II, ?_⟩
          refine WH.only 9 rfl rfl (by kernel_rfl) rfl (OP.callRO rfl rfl (csame_ro aO (rows2[j]).1 (rows2[j]).2.2.length cO (rows2[j]).2.2.length (rows2[j]).2.1 (rows2[j]).2.2 (rows2[j]).2.2 rfl rfl (by omega)) (Ent.and (Ent.own (T := 3) (cap := cO) MM) (irowsA_get MM hjl)) rfl rfl ⟨fun _ => II, ?_⟩)
          rw [decide_eq_true (rfl : (rows2[j]).2.2 = (rows2[j]).2.2)]
          refine WP 10 ?_
          refine DN ?_
          repeat (first | refine GD ?_ | refine NW fun _ => ?_)
          exact ⟨j + 1, by omega, by omega, ⟨rfl, rfl, rfl, rfl, rfl, rfl, rfl, rfl, rfl, trivial⟩, II⟩
        have hje : j = rows2.length := by omega
        subst hje
        repeat (first | refine GD ?_ | refine NW fun _ => ?_)
        exact ⟨(k + 1, C1, rows2, aM, cap', l, xa, xc), ⟨by dsimp only; omega, O2⟩, by dsimp only; omega, ⟨rfl, rfl, rfl, rfl, rfl, rfl, rfl, trivial⟩, II⟩
      · have hz2 : C1.R.number = C1.last := hrnum.resolve_left hz
        repeat (first | refine GD ?_ | refine NW fun _ => ?_)
        refine WC.loop (σ := Nat) (fun j => j ≤ rows2.length)
          (fun j => [(0, .val (.slice a n c)), (1, .val (.slice (some ⟨b, off, none⟩) n1 c1)), (5, .val (.pointer (some ⟨p, 0, none⟩))), (7, .val (.slice aM rows2.length cap')), (8, .val (.slice xa l.length xc)), (44, .val (.int .i64 n1)), (45, .val (.int .i64 k)), (157, .val (.int .i64 rows2.length)), (158, .val (.int .i64 j))])
          (fun _ => [irowsA rows2, ownS aM rows2.length cap' 23 1 (rows2.map irowV), ownS xa l.length xc 63 3 (l.flatMap encCmd), crdA p q g (a, n, c) C1, dsk q C1.D, A]) (fun j => rows2.length - j) 0 (Nat.zero_le _) ⟨rfl, rfl, rfl, rfl, rfl, rfl, rfl, rfl, rfl, trivial⟩ II ?_
        intro j hj
        by_cases hjl : j < rows2.length
        · have hgt := gat_rt g C1.f C1.ch ((j : Int) + 1) O2.I.f4 O2.I.vols O2.I.few
          rw [show listM (atM ((j : Int) + 1) C1.f C1.ch) = (rows2[j]).2.2 from (hrow2 j hjl).symm] at hgt
          have h4 : (rows2[j]).2.2.length ≤ 4 := by
            rw [hrow2 j hjl]
            have := listM_len (atM ((j : Int) + 1) C1.f C1.ch)
            rw [atM_length, O2.I.f4] at this
            exact this
          refine WC.fact (Ent.some (Ent.own (a := aM) (n := rows2.length) (cap := cap') (T := 23) (size := 1) (cs := rows2.map irowV) MM) (by omega)) ?_
          rintro ⟨bM, oM, rfl⟩
          repeat (first | refine GD ?_ | refine NW fun _ => ?_)
          refine RD 11 11 (_) ?_
          refine WP 0 ?_
          refine WP 2 ?_
          refine WP 3 ?_
          refine WP 5 ?_
          refine WP 6 ?_
          refine WP 7 ?_
          refine VL 8 (irowV rows2[j]) rfl rfl rfl rfl (.inl ⟨rfl, Ent.elem (i := j * 1) (Ent.own (T := 23) (n := rows2.length) (cap := cap') MM) rfl (irowsV_get hjl)⟩) ?_
          refine WH.only 1 rfl rfl (by kernel_rfl) rfl (OP.callRO rfl rfl (cgroup_ro p q g (a, n, c) C1) (Ent.at (up_crdA _ _ _ _ _) MM) rfl rfl ⟨fun _ => II, ?_⟩)
          refine WH.only 4 rfl rfl (by kernel_rfl) rfl (OP.callRT rfl rfl hgt (crd_grp (C := C1) (p := p) (q := q) (fv := (a, n, c)) MM) rfl rfl (fun x3 E3 hE3 => ?_))
          obtain ⟨aO, cO, rfl, rfl⟩ := hE3
          refine ⟨fun _ => II, ?_⟩
          refine WH.only 9 rfl rfl (by kernel_rfl) rfl (OP.callRO rfl rfl (csame_ro aO (rows2[j]).1 (rows2[j]).2.2.length cO (rows2[j]).2.2.length (rows2[j]).2.1 (rows2[j]).2.2 (rows2[j]).2.2 rfl rfl (by omega)) (Ent.and (Ent.own (T := 3) (cap := cO) MM) (irowsA_get MM hjl)) rfl rfl ⟨fun _ => II, ?_⟩)
          rw [decide_eq_true (rfl : (rows2[j]).2.2 = (rows2[j]).2.2)]
          refine WP 10 ?_
          refine DN ?_
          repeat (first | refine GD ?_ | refine NW fun _ => ?_)
          exact ⟨j + 1, by omega, by omega, ⟨rfl, rfl, rfl, rfl, rfl, rfl, rfl, rfl, rfl, trivial⟩, II⟩
        have hje : j = rows2.length := by omega
        subst hje
        repeat (first | refine GD ?_ | refine NW fun _ => ?_)
        exact ⟨(k + 1, C1, rows2, aM, cap', l, xa, xc), ⟨by dsimp only; omega, O2⟩, by dsimp only; omega, ⟨rfl, rfl, rfl, rfl, rfl, rfl, rfl, trivial⟩, II⟩
  by_cases k2 : kd = 2
  · subst k2
    have O2 : OnceI (k + 1) f C rows told := O.keep (O.I.mono (by omega)) rfl rfl rfl (.inl rfl) (by omega)
    cases tld with
    | false =>
      repeat (first | refine GD ?_ | refine NW fun _ => ?_)
      have hrl2 := O2.len
      have hrnum := O2.I.R.num
      have hmk2 := O2.I.marked
      have hlast2 := O2.I.last
      have hrow2 := O2.row
      have hjl2 := O2.I.J.len
      rw [O2.ring] at hjl2
      repeat (first | refine GD ?_ | refine NW fun _ => ?_)
      refine WL.step rfl (OP.callRO rfl rfl (crounds_ro p q g (a, n, c) C) (Ent.at (up_crdA _ _ _ _ _) MM) rfl rfl ?_)
      by_cases hz : C.R.number = 0
      · repeat (first | refine GD ?_ | refine NW fun _ => ?_)
        refine WC.loop (σ := Nat) (fun j => j ≤ rows.length)
          (fun j => [(0, .val (.slice a n c)), (1, .val (.slice (some ⟨b, off, none⟩) n1 c1)), (5, .val (.pointer (some ⟨p, 0, none⟩))), (7, .val (.slice ma rows.length mc)), (8, .val (.slice ta told.length tc)), (44, .val (.int .i64 n1)), (45, .val (.int .i64 k)), (157, .val (.int .i64 rows.length)), (158, .val (.int .i64 j))])
          (fun _ => [irowsA rows, ownS ma rows.length mc 23 1 (rows.map irowV), ownS ta told.length tc 63 3 (told.flatMap encCmd), crdA p q g (a, n, c) C, dsk q C.D, A]) (fun j => rows.length - j) 0 (Nat.zero_le _) ⟨rfl, rfl, rfl, rfl, rfl, rfl, rfl, rfl, rfl, trivial⟩ II ?_
        intro j hj
        by_cases hjl : j < rows.length
        · have hgt := gat_rt g C.f C.ch ((j : Int) + 1) O2.I.f4 O2.I.vols O2.I.few
          rw [show listM (atM ((j : Int) + 1) C.f C.ch) = (rows[j]).2.2 from (hrow2 j hjl).symm] at hgt
          have h4 : (rows[j]).2.2.length ≤ 4 := by
            rw [hrow2 j hjl]
            have := listM_len (atM ((j : Int) + 1) C.f C.ch)
            rw [atM_length, O2.I.f4] at this
            exact this
          refine WC.fact (Ent.some (Ent.own (a := ma) (n := rows.length) (cap := mc) (T := 23) (size := 1) (cs := rows.map irowV) MM) (by omega)) ?_
          rintro ⟨bM, oM, rfl⟩
          repeat (first | refine GD ?_ | refine NW fun _ => ?_)
          refine RD 11 11 (_) ?_
          refine WP 0 ?_
          refine WP 2 ?_
          refine WP 3 ?_
          refine WP 5 ?_
          refine WP 6 ?_
          refine WP 7 ?_
          refine VL 8 (irowV rows[j]) rfl rfl rfl rfl (.inl ⟨rfl, Ent.elem (i := j * 1) (Ent.own (T := 23) (n := rows.length) (cap := mc) MM) rfl (irowsV_get hjl)⟩) ?_
          refine WH.only 1 rfl rfl (by kernel_rfl) rfl (OP.callRO rfl rfl (cgroup_ro p q g (a, n, c) C) (Ent.at (up_crdA _ _ _ _ _) MM) rfl rfl ⟨fun _ => II, ?_⟩)
          refine WH.only 4 rfl rfl (by kernel_rfl) rfl (OP.callRT rfl rfl hgt (crd_grp (C := C) (p := p) (q := q) (fv := (a, n, c)) MM) rfl rfl (fun x3 E3 hE3 => ?_))
          obtain ⟨aO, cO, rfl, rfl⟩ := hE3
          refine ⟨fun _ => II, ?_⟩
          refine WH.only 9 rfl rfl (by kernel_rfl) rfl (OP.callRO rfl rfl (csame_ro aO (rows[j]).1 (rows[j]).2.2.length cO (rows[j]).2.2.length (rows[j]).2.1 (rows[j]).2.2 (rows[j]).2.2 rfl rfl (by omega)) (Ent.and (Ent.own (T := 3) (cap := cO) MM) (irowsA_get MM hjl)) rfl rfl ⟨fun _ => II, ?_⟩)
          rw [decide_eq_true (rfl : (rows[j]).2.2 = (rows[j]).2.2)]
          refine WP 10 ?_
          refine DN ?_
          repeat (first | refine GD ?_ | refine NW fun _ => ?_)
          exact ⟨j + 1, by omega, by omega, ⟨rfl, rfl, rfl, rfl, rfl, rfl, rfl, rfl, rfl, trivial⟩, II⟩
        have hje : j = rows.length := by omega
        subst hje
        repeat (first | refine GD ?_ | refine NW fun _ => ?_)
        exact ⟨(k + 1, C, rows, ma, mc, told, ta, tc), ⟨by dsimp only; omega, O2⟩, by dsimp only; omega, ⟨rfl, rfl, rfl, rfl, rfl, rfl, rfl, trivial⟩, II⟩
      · have hz2 : C.R.number = C.last := hrnum.resolve_left hz
        repeat (first | refine GD ?_ | refine NW fun _ => ?_)
        refine WC.loop (σ := Nat) (fun j => j ≤ rows.length)
          (fun j => [(0, .val (.slice a n c)), (1, .val (.slice (some ⟨b, off, none⟩) n1 c1)), (5, .val (.pointer (some ⟨p, 0, none⟩))), (7, .val (.slice ma rows.length mc)), (8, .val (.slice ta told.length tc)), (44, .val (.int .i64 n1)), (45, .val (.int .i64 k)), (157, .val (.int .i64 rows.length)), (158, .val (.int .i64 j))])
          (fun _ => [irowsA rows, ownS ma rows.length mc 23 1 (rows.map irowV), ownS ta told.length tc 63 3 (told.flatMap encCmd), crdA p q g (a, n, c) C, dsk q C.D, A]) (fun j => rows.length - j) 0 (Nat.zero_le _) ⟨rfl, rfl, rfl, rfl, rfl, rfl, rfl, rfl, rfl, trivial⟩ II ?_
        intro j hj
        by_cases hjl : j < rows.length
        · have hgt := gat_rt g C.f C.ch ((j : Int) + 1) O2.I.f4 O2.I.vols O2.I.few
          rw [show listM (atM ((j : Int) + 1) C.f C.ch) = (rows[j]).2.2 from (hrow2 j hjl).symm] at hgt
          have h4 : (rows[j]).2.2.length ≤ 4 := by
            rw [hrow2 j hjl]
            have := listM_len (atM ((j : Int) + 1) C.f C.ch)
            rw [atM_length, O2.I.f4] at this
            exact this
          refine WC.fact (Ent.some (Ent.own (a := ma) (n := rows.length) (cap := mc) (T := 23) (size := 1) (cs := rows.map irowV) MM) (by omega)) ?_
          rintro ⟨bM, oM, rfl⟩
          repeat (first | refine GD ?_ | refine NW fun _ => ?_)
          refine RD 11 11 (_) ?_
          refine WP 0 ?_
          refine WP 2 ?_
          refine WP 3 ?_
          refine WP 5 ?_
          refine WP 6 ?_
          refine WP 7 ?_
          refine VL 8 (irowV rows[j]) rfl rfl rfl rfl (.inl ⟨rfl, Ent.elem (i := j * 1) (Ent.own (T := 23) (n := rows.length) (cap := mc) MM) rfl (irowsV_get hjl)⟩) ?_
          refine WH.only 1 rfl rfl (by kernel_rfl) rfl (OP.callRO rfl rfl (cgroup_ro p q g (a, n, c) C) (Ent.at (up_crdA _ _ _ _ _) MM) rfl rfl ⟨fun _ => II, ?_⟩)
          refine WH.only 4 rfl rfl (by kernel_rfl) rfl (OP.callRT rfl rfl hgt (crd_grp (C := C) (p := p) (q := q) (fv := (a, n, c)) MM) rfl rfl (fun x3 E3 hE3 => ?_))
          obtain ⟨aO, cO, rfl, rfl⟩ := hE3
          refine ⟨fun _ => II, ?_⟩
          refine WH.only 9 rfl rfl (by kernel_rfl) rfl (OP.callRO rfl rfl (csame_ro aO (rows[j]).1 (rows[j]).2.2.length cO (rows[j]).2.2.length (rows[j]).2.1 (rows[j]).2.2 (rows[j]).2.2 rfl rfl (by omega)) (Ent.and (Ent.own (T := 3) (cap := cO) MM) (irowsA_get MM hjl)) rfl rfl ⟨fun _ => II, ?_⟩)
          rw [decide_eq_true (rfl : (rows[j]).2.2 = (rows[j]).2.2)]
          refine WP 10 ?_
          refine DN ?_
          repeat (first | refine GD ?_ | refine NW fun _ => ?_)
          exact ⟨j + 1, by omega, by omega, ⟨rfl, rfl, rfl, rfl, rfl, rfl, rfl, rfl, rfl, trivial⟩, II⟩
        have hje : j = rows.length := by omega
        subst hje
        repeat (first | refine GD ?_ | refine NW fun _ => ?_)
        exact ⟨(k + 1, C, rows, ma, mc, told, ta, tc), ⟨by dsimp only; omega, O2⟩, by dsimp only; omega, ⟨rfl, rfl, rfl, rfl, rfl, rfl, rfl, trivial⟩, II⟩
    | true =>
    cases told with
    | nil =>
      repeat (first | refine GD ?_ | refine NW fun _ => ?_)
      have hrl2 := O2.len
      have hrnum := O2.I.R.num
      have hmk2 := O2.I.marked
      have hlast2 := O2.I.last
      have hrow2 := O2.row
      have hjl2 := O2.I.J.len
      rw [O2.ring] at hjl2
      repeat (first | refine GD ?_ | refine NW fun _ => ?_)
      refine WL.step rfl (OP.callRO rfl rfl (crounds_ro p q g (a, n, c) C) (Ent.at (up_crdA _ _ _ _ _) MM) rfl rfl ?_)
      by_cases hz : C.R.number = 0
      · repeat (first | refine GD ?_ | refine NW fun _ => ?_)
        refine WC.loop (σ := Nat) (fun j => j ≤ rows.length)
          (fun j => [(0, .val (.slice a n c)), (1, .val (.slice (some ⟨b, off, none⟩) n1 c1)), (5, .val (.pointer (some ⟨p, 0, none⟩))), (7, .val (.slice ma rows.length mc)), (8, .val (.slice ta ([] : List Cmd).length tc)), (44, .val (.int .i64 n1)), (45, .val (.int .i64 k)), (157, .val (.int .i64 rows.length)), (158, .val (.int .i64 j))])
          (fun _ => [irowsA rows, ownS ma rows.length mc 23 1 (rows.map irowV), ownS ta ([] : List Cmd).length tc 63 3 (([] : List Cmd).flatMap encCmd), crdA p q g (a, n, c) C, dsk q C.D, A]) (fun j => rows.length - j) 0 (Nat.zero_le _) ⟨rfl, rfl, rfl, rfl, rfl, rfl, rfl, rfl, rfl, trivial⟩ II ?_
        intro j hj
        by_cases hjl : j < rows.length
        · have hgt := gat_rt g C.f C.ch ((j : Int) + 1) O2.I.f4 O2.I.vols O2.I.few
          rw [show listM (atM ((j : Int) + 1) C.f C.ch) = (rows[j]).2.2 from (hrow2 j hjl).symm] at hgt
          have h4 : (rows[j]).2.2.length ≤ 4 := by
            rw [hrow2 j hjl]
            have := listM_len (atM ((j : Int) + 1) C.f C.ch)
            rw [atM_length, O2.I.f4] at this
            exact this
          refine WC.fact (Ent.some (Ent.own (a := ma) (n := rows.length) (cap := mc) (T := 23) (size := 1) (cs := rows.map irowV) MM) (by omega)) ?_
          rintro ⟨bM, oM, rfl⟩
          repeat (first | refine GD ?_ | refine NW fun _ => ?_)
          refine RD 11 11 (_) ?_
          refine WP 0 ?_
          refine WP 2 ?_
          refine WP 3 ?_
          refine WP 5 ?_
          refine WP 6 ?_
          refine WP 7 ?_
          refine VL 8 (irowV rows[j]) rfl rfl rfl rfl (.inl ⟨rfl, Ent.elem (i := j * 1) (Ent.own (T := 23) (n := rows.length) (cap := mc) MM) rfl (irowsV_get hjl)⟩) ?_
          refine WH.only 1 rfl rfl (by kernel_rfl) rfl (OP.callRO rfl rfl (cgroup_ro p q g (a, n, c) C) (Ent.at (up_crdA _ _ _ _ _) MM) rfl rfl ⟨fun _ => II, ?_⟩)
          refine WH.only 4 rfl rfl (by kernel_rfl) rfl (OP.callRT rfl rfl hgt (crd_grp (C := C) (p := p) (q := q) (fv := (a, n, c)) MM) rfl rfl (fun x3 E3 hE3 => ?_))
          obtain ⟨aO, cO, rfl, rfl⟩ := hE3
          refine ⟨fun _ => II, ?_⟩
          refine WH.only 9 rfl rfl (by kernel_rfl) rfl (OP.callRO rfl rfl (csame_ro aO (rows[j]).1 (rows[j]).2.2.length cO (rows[j]).2.2.length (rows[j]).2.1 (rows[j]).2.2 (rows[j]).2.2 rfl rfl (by omega)) (Ent.and (Ent.own (T := 3) (cap := cO) MM) (irowsA_get MM hjl)) rfl rfl ⟨fun _ => II, ?_⟩)
          rw [decide_eq_true (rfl : (rows[j]).2.2 = (rows[j]).2.2)]
          refine WP 10 ?_
          refine DN ?_
          repeat (first | refine GD ?_ | refine NW fun _ => ?_)
          exact ⟨j + 1, by omega, by omega, ⟨rfl, rfl, rfl, rfl, rfl, rfl, rfl, rfl, rfl, trivial⟩, II⟩
        have hje : j = rows.length := by omega
        subst hje
        repeat (first | refine GD ?_ | refine NW fun _ => ?_)
        exact ⟨(k + 1, C, rows, ma, mc, ([] : List Cmd), ta, tc), ⟨by dsimp only; omega, O2⟩, by dsimp only; omega, ⟨rfl, rfl, rfl, rfl, rfl, rfl, rfl, trivial⟩, II⟩
      · have hz2 : C.R.number = C.last := hrnum.resolve_left hz
        repeat (first | refine GD ?_ | refine NW fun _ => ?_)
        refine WC.loop (σ := Nat) (fun j => j ≤ rows.length)
          (fun j => [(0, .val (.slice a n c)), (1, .val (.slice (some ⟨b, off, none⟩) n1 c1)), (5, .val (.pointer (some ⟨p, 0, none⟩))), (7, .val (.slice ma rows.length mc)), (8, .val (.slice ta ([] : List Cmd).length tc)), (44, .val (.int .i64 n1)), (45, .val (.int .i64 k)), (157, .val (.int .i64 rows.length)), (158, .val (.int .i64 j))])
          (fun _ => [irowsA rows, ownS ma rows.length mc 23 1 (rows.map irowV), ownS ta ([] : List Cmd).length tc 63 3 (([] : List Cmd).flatMap encCmd), crdA p q g (a, n, c) C, dsk q C.D, A]) (fun j => rows.length - j) 0 (Nat.zero_le _) ⟨rfl, rfl, rfl, rfl, rfl, rfl, rfl, rfl, rfl, trivial⟩ II ?_
        intro j hj
        by_cases hjl : j < rows.length
        · have hgt := gat_rt g C.f C.ch ((j : Int) + 1) O2.I.f4 O2.I.vols O2.I.few
          rw [show listM (atM ((j : Int) + 1) C.f C.ch) = (rows[j]).2.2 from (hrow2 j hjl).symm] at hgt
          have h4 : (rows[j]).2.2.length ≤ 4 := by
            rw [hrow2 j hjl]
            have := listM_len (atM ((j : Int) + 1) C.f C.ch)
            rw [atM_length, O2.I.f4] at this
            exact this
          refine WC.fact (Ent.some (Ent.own (a := ma) (n := rows.length) (cap := mc) (T := 23) (size := 1) (cs := rows.map irowV) MM) (by omega)) ?_
          rintro ⟨bM, oM, rfl⟩
          repeat (first | refine GD ?_ | refine NW fun _ => ?_)
          refine RD 11 11 (_) ?_
          refine WP 0 ?_
          refine WP 2 ?_
          refine WP 3 ?_
          refine WP 5 ?_
          refine WP 6 ?_
          refine WP 7 ?_
          refine VL 8 (irowV rows[j]) rfl rfl rfl rfl (.inl ⟨rfl, Ent.elem (i := j * 1) (Ent.own (T := 23) (n := rows.length) (cap := mc) MM) rfl (irowsV_get hjl)⟩) ?_
          refine WH.only 1 rfl rfl (by kernel_rfl) rfl (OP.callRO rfl rfl (cgroup_ro p q g (a, n, c) C) (Ent.at (up_crdA _ _ _ _ _) MM) rfl rfl ⟨fun _ => II, ?_⟩)
          refine WH.only 4 rfl rfl (by kernel_rfl) rfl (OP.callRT rfl rfl hgt (crd_grp (C := C) (p := p) (q := q) (fv := (a, n, c)) MM) rfl rfl (fun x3 E3 hE3 => ?_))
          obtain ⟨aO, cO, rfl, rfl⟩ := hE3
          refine ⟨fun _ => II, ?_⟩
          refine WH.only 9 rfl rfl (by kernel_rfl) rfl (OP.callRO rfl rfl (csame_ro aO (rows[j]).1 (rows[j]).2.2.length cO (rows[j]).2.2.length (rows[j]).2.1 (rows[j]).2.2 (rows[j]).2.2 rfl rfl (by omega)) (Ent.and (Ent.own (T := 3) (cap := cO) MM) (irowsA_get MM hjl)) rfl rfl ⟨fun _ => II, ?_⟩)
          rw [decide_eq_true (rfl : (rows[j]).2.2 = (rows[j]).2.2)]
          refine WP 10 ?_
          refine DN ?_
          repeat (first | refine GD ?_ | refine NW fun _ => ?_)
          exact ⟨j + 1, by omega, by omega, ⟨rfl, rfl, rfl, rfl, rfl, rfl, rfl, rfl, rfl, trivial⟩, II⟩
        have hje : j = rows.length := by omega
        subst hje
        repeat (first | refine GD ?_ | refine NW fun _ => ?_)
        exact ⟨(k + 1, C, rows, ma, mc, ([] : List Cmd), ta, tc), ⟨by dsimp only; omega, O2⟩, by dsimp only; omega, ⟨rfl, rfl, rfl, rfl, rfl, rfl, rfl, trivial⟩, II⟩
    | cons cm r =>
    have hclen : (cm :: r).length = r.length + 1 := rfl
    have hrl9 : r.length ≤ 8 * (k + 1) := by have := O.told; rw [hclen] at this; omega
    have hca := canswer_ok p q g (a, n, c) C _ cm O.I (by have := O.I.R.vl; omega)
    unfold AnswerCo at hca
    refine WL.fact (Ent.some (Ent.own (a := ta) (n := (cm :: r).length) (cap := tc) (T := 63) (size := 3) (cs := (cm :: r).flatMap encCmd) MM) (by simp)) ?_
    rintro ⟨ob, oo, rfl⟩
    refine WL.fact (Ent.ownLe (a := some ⟨ob, oo, none⟩) (n := (cm :: r).length) (cap := tc) (T := 63) (size := 3) (cs := (cm :: r).flatMap encCmd) MM) (fun hcap => ?_)
    rw [hclen] at *
    have hpos : 0 < ((r.length + 1 : Nat) : Int) := by omega
    repeat (first | refine GD ?_ | refine NW fun _ => ?_)
    refine WL.step rfl (OP.loadA (l := encCmd cm) rfl rfl rfl rfl (Ent.elA (f := encCmd) encCmd_len (k := 0) (l := cm :: r) (Ent.own (T := 63) MM) (by simp)) rfl rfl rfl ?_)
    cases han : answerC C cm with
    | error lc =>
      obtain ⟨le, ce⟩ := lc
      rw [han] at hca
      have hle : le ≠ [] := by
        unfold answerC at han
        split at han
        · cases han; simp
        · cases han
      refine WL.step rfl (OP.call (pre := [crdA p q g _ C, dsk q C.D]) rfl rfl hca PS rfl rfl ?_)
      rintro _ _ ⟨e, E, hE, rfl, rfl⟩
      obtain ⟨y, ch, hc1, rfl, rfl⟩ := isEr_one hE hle
      have O2 : OnceI (k + 1) f C rows (r ++ ([] : List Cmd)) := O.keep (O.I.mono (by omega)) rfl rfl rfl (.inl rfl) (by rw [List.append_nil]; show r.length ≤ r.length + 1 + 8; omega)
      refine WL.imp (Imp.nilS 63 3) ?_
      repeat (first | refine GD ?_ | refine NW fun _ => ?_)
      refine WL.step rfl (OP.slice3 (l := 1) (h := r.length + 1) (m := r.length + 1) rfl rfl rfl rfl rfl rfl rfl rfl rfl rfl rfl (by omega) (Nat.le_refl _) hcap rfl rfl ?_)
      repeat (first | refine GD ?_ | refine NW fun _ => ?_)
      refine WL.step rfl (OP.append (cs := r.flatMap encCmd) (ds := ([] : List Cmd).flatMap encCmd) rfl rfl rfl rfl rfl rfl rfl rfl rfl (Imp.trans (show Imp _ (ownS (some ⟨ob, oo, none⟩) (r.length + 1) tc 63 3 ((cm :: r).flatMap encCmd) :: _) from P1) (Imp.ownCut (cap' := r.length + 1) (l := 1) (by omega) (Nat.le_refl _) hcap)) (Ent.own (a := none) (cap := 0) (T := 63) MM) (cmd_one _) (by omega) (by omega) rfl rfl (fun a' cap' => ?_))
      rw [show r.length + 1 - 1 + 0 = (r ++ ([] : List Cmd)).length by rw [List.length_append, List.length_nil]; omega, ← List.flatMap_append]
      generalize hto : r ++ ([] : List Cmd) = told2 at *
      have hrl2 := O2.len
      have hrnum := O2.I.R.num
      have hmk2 := O2.I.marked
      have hlast2 := O2.I.last
      have hrow2 := O2.row
      have hjl2 := O2.I.J.len
      rw [O2.ring] at hjl2
      repeat (first | refine GD ?_ | refine NW fun _ => ?_)
      refine WL.step rfl (OP.callRO rfl rfl (crounds_ro p q g (a, n, c) C) (Ent.at (up_crdA _ _ _ _ _) MM) rfl rfl ?_)
      by_cases hz : C.R.number = 0
      · repeat (first | refine GD ?_ | refine NW fun _ => ?_)
        refine WC.loop (σ := Nat) (fun j => j ≤ rows.length)
          (fun j => [(0, .val (.slice a n c)), (1, .val (.slice (some ⟨b, off, none⟩) n1 c1)), (5, .val (.pointer (some ⟨p, 0, none⟩))), (7, .val (.slice ma rows.length mc)), (8, .val (.slice a' told2.length cap')), (44, .val (.int .i64 n1)), (45, .val (.int .i64 k)), (157, .val (.int .i64 rows.length)), (158, .val (.int .i64 j))])
          (fun _ => [irowsA rows, ownS ma rows.length mc 23 1 (rows.map irowV), ownS a' told2.length cap' 63 3 (told2.flatMap encCmd), crdA p q g (a, n, c) C, dsk q C.D, A]) (fun j => rows.length - j) 0 (Nat.zero_le _) ⟨rfl, rfl, rfl, rfl, rfl, rfl, rfl, rfl, rfl, trivial⟩ II ?_
        intro j hj
        by_cases hjl : j < rows.length
        · have hgt := gat_rt g C.f C.ch ((j : Int) + 1) O2.I.f4 O2.I.vols O2.I.few
          rw [show listM (atM ((j : Int) + 1) C.f C.ch) = (rows[j]).2.2 from (hrow2 j hjl).symm] at hgt
          have h4 : (rows[j]).2.2.length ≤ 4 := by
            rw [hrow2 j hjl]
            have := listM_len (atM ((j : Int) + 1) C.f C.ch)
            rw [atM_length, O2.I.f4] at this
            exact this
          refine WC.fact (Ent.some (Ent.own (a := ma) (n := rows.length) (cap := mc) (T := 23) (size := 1) (cs := rows.map irowV) MM) (by omega)) ?_
          rintro ⟨bM, oM, rfl⟩
          repeat (first | refine GD ?_ | refine NW fun _ => ?_)
          refine RD 11 11 (_) ?_
          refine WP 0 ?_
          refine WP 2 ?_
          refine WP 3 ?_
          refine WP 5 ?_
          refine WP 6 ?_
          refine WP 7 ?_
          refine VL 8 (irowV rows[j]) rfl rfl rfl rfl (.inl ⟨rfl, Ent.elem (i := j * 1) (Ent.own (T := 23) (n := rows.length) (cap := mc) MM) rfl (irowsV_get hjl)⟩) ?_
          refine WH.only 1 rfl rfl (by kernel_rfl) rfl (OP.callRO rfl rfl (cgroup_ro p q g (a, n, c) C) (Ent.at (up_crdA _ _ _ _ _) MM) rfl rfl ⟨fun _ => II, ?_⟩)
          refine WH.only 4 rfl rfl (by kernel_rfl) rfl (OP.callRT rfl rfl hgt (crd_grp (C := C) (p := p) (q := q) (fv := (a, n, c)) MM) rfl rfl (fun x3 E3 hE3 => ?_))
          obtain ⟨aO, cO, rfl, rfl⟩ := hE3
          refine ⟨fun _ => II, ?_⟩
          refine WH.only 9 rfl rfl (by kernel_rfl) rfl (OP.callRO rfl rfl (csame_ro aO (rows[j]).1 (rows[j]).2.2.length cO (rows[j]).2.2.length (rows[j]).2.1 (rows[j]).2.2 (rows[j]).2.2 rfl rfl (by omega)) (Ent.and (Ent.own (T := 3) (cap := cO) MM) (irowsA_get MM hjl)) rfl rfl ⟨fun _ => II, ?_⟩)
          rw [decide_eq_true (rfl : (rows[j]).2.2 = (rows[j]).2.2)]
          refine WP 10 ?_
          refine DN ?_
          repeat (first | refine GD ?_ | refine NW fun _ => ?_)
          exact ⟨j + 1, by omega, by omega, ⟨rfl, rfl, rfl, rfl, rfl, rfl, rfl, rfl, rfl, trivial⟩, II⟩
        have hje : j = rows.length := by omega
        subst hje
        repeat (first | refine GD ?_ | refine NW fun _ => ?_)
        exact ⟨(k + 1, C, rows, ma, mc, told2, a', cap'), ⟨by dsimp only; omega, O2⟩, by dsimp only; omega, ⟨rfl, rfl, rfl, rfl, rfl, rfl, rfl, trivial⟩, II⟩
      · have hz2 : C.R.number = C.last := hrnum.resolve_left hz
        repeat (first | refine GD ?_ | refine NW fun _ => ?_)
        refine WC.loop (σ := Nat) (fun j => j ≤ rows.length)
          (fun j => [(0, .val (.slice a n c)), (1, .val (.slice (some ⟨b, off, none⟩) n1 c1)), (5, .val (.pointer (some ⟨p, 0, none⟩))), (7, .val (.slice ma rows.length mc)), (8, .val (.slice a' told2.length cap')), (44, .val (.int .i64 n1)), (45, .val (.int .i64 k)), (157, .val (.int .i64 rows.length)), (158, .val (.int .i64 j))])
          (fun _ => [irowsA rows, ownS ma rows.length mc 23 1 (rows.map irowV), ownS a' told2.length cap' 63 3 (told2.flatMap encCmd), crdA p q g (a, n, c) C, dsk q C.D, A]) (fun j => rows.length - j) 0 (Nat.zero_le _) ⟨rfl, rfl, rfl, rfl, rfl, rfl, rfl, rfl, rfl, trivial⟩ II ?_
        intro j hj
        by_cases hjl : j < rows.length
        · have hgt := gat_rt g C.f C.ch ((j : Int) + 1) O2.I.f4 O2.I.vols O2.I.few
          rw [show listM (atM ((j : Int) + 1) C.f C.ch) = (rows[j]).2.2 from (hrow2 j hjl).symm] at hgt
          have h4 : (rows[j]).2.2.length ≤ 4 := by
            rw [hrow2 j hjl]
            have := listM_len (atM ((j : Int) + 1) C.f C.ch)
            rw [atM_length, O2.I.f4] at this
            exact this
          refine WC.fact (Ent.some (Ent.own (a := ma) (n := rows.length) (cap := mc) (T := 23) (size := 1) (cs := rows.map irowV) MM) (by omega)) ?_
          rintro ⟨bM, oM, rfl⟩
          repeat (first | refine GD ?_ | refine NW fun _ => ?_)
          refine RD 11 11 (_) ?_
          refine WP 0 ?_
          refine WP 2 ?_
          refine WP 3 ?_
          refine WP 5 ?_
          refine WP 6 ?_
          refine WP 7 ?_
          refine VL 8 (irowV rows[j]) rfl rfl rfl rfl (.inl ⟨rfl, Ent.elem (i := j * 1) (Ent.own (T := 23) (n := rows.length) (cap := mc) MM) rfl (irowsV_get hjl)⟩) ?_
          refine WH.only 1 rfl rfl (by kernel_rfl) rfl (OP.callRO rfl rfl (cgroup_ro p q g (a, n, c) C) (Ent.at (up_crdA _ _ _ _ _) MM) rfl rfl ⟨fun _ => II, ?_⟩)
          refine WH.only 4 rfl rfl (by kernel_rfl) rfl (OP.callRT rfl rfl hgt (crd_grp (C := C) (p := p) (q := q) (fv := (a, n, c)) MM) rfl rfl (fun x3 E3 hE3 => ?_))
          obtain ⟨aO, cO, rfl, rfl⟩ := hE3
          refine ⟨fun _ => II, ?_⟩
          refine WH.only 9 rfl rfl (by kernel_rfl) rfl (OP.callRO rfl rfl (csame_ro aO (rows[j]).1 (rows[j]).2.2.length cO (rows[j]).2.2.length (rows[j]).2.1 (rows[j]).2.2 (rows[j]).2.2 rfl rfl (by omega)) (Ent.and (Ent.own (T := 3) (cap := cO) MM) (irowsA_get MM hjl)) rfl rfl ⟨fun _ => II, ?_⟩)
          rw [decide_eq_true (rfl : (rows[j]).2.2 = (rows[j]).2.2)]
          refine WP 10 ?_
          refine DN ?_
          repeat (first | refine GD ?_ | refine NW fun _ => ?_)
          exact ⟨j + 1, by omega, by omega, ⟨rfl, rfl, rfl, rfl, rfl, rfl, rfl, rfl, rfl, trivial⟩, II⟩
        have hje : j = rows.length := by omega
        subst hje
        repeat (first | refine GD ?_ | refine NW fun _ => ?_)
        exact ⟨(k + 1, C, rows, ma, mc, told2, a', cap'), ⟨by dsimp only; omega, O2⟩, by dsimp only; omega, ⟨rfl, rfl, rfl, rfl, rfl, rfl, rfl, trivial⟩, II⟩
    | ok x =>
      obtain ⟨l3, C3⟩ := x
      rw [han] at hca
      obtain ⟨I3, e1, e2, e3, e4, e5⟩ := O.I.answer han
      have hl3 : l3.length ≤ 4 := by
        unfold answerC at han
        split at han
        · cases han
        · rename_i l' R' hR
          cases han
          exact answer_few O.I.R hR
      refine WL.step rfl (OP.call (pre := [crdA p q g _ C, dsk q C.D]) rfl rfl hca PS rfl rfl ?_)
      rintro _ _ ⟨_, _, ⟨xa3, xc3, rfl, rfl⟩, rfl, rfl⟩
      have O2 : OnceI (k + 1) f C3 rows (r ++ l3) := O.keep (I3.mono (by omega)) e3 e1 (by rw [e4]) (.inl e2) (by rw [List.length_append]; show r.length + l3.length ≤ r.length + 1 + 8; omega)
      repeat (first | refine GD ?_ | refine NW fun _ => ?_)
      refine WL.step rfl (OP.slice3 (l := 1) (h := r.length + 1) (m := r.length + 1) rfl rfl rfl rfl rfl rfl rfl rfl rfl rfl rfl (by omega) (Nat.le_refl _) hcap rfl rfl ?_)
      repeat (first | refine GD ?_ | refine NW fun _ => ?_)
      refine WL.step rfl (OP.append (cs := r.flatMap encCmd) (ds := l3.flatMap encCmd) rfl rfl rfl rfl rfl rfl rfl rfl rfl (Imp.trans (show Imp _ (ownS (some ⟨ob, oo, none⟩) (r.length + 1) tc 63 3 ((cm :: r).flatMap encCmd) :: _) from P1) (Imp.ownCut (cap' := r.length + 1) (l := 1) (by omega) (Nat.le_refl _) hcap)) (Ent.own MM) (cmd_one _) (by omega) (by omega) rfl rfl (fun a' cap' => ?_))
      rw [show r.length + 1 - 1 + l3.length = (r ++ l3).length by rw [List.length_append, (rfl : l3.length = l3.length)]; omega, ← List.flatMap_append]
      generalize hto : r ++ l3 = told2 at *
      have hrl2 := O2.len
      have hrnum := O2.I.R.num
      have hmk2 := O2.I.marked
      have hlast2 := O2.I.last
      have hrow2 := O2.row
      have hjl2 := O2.I.J.len
      rw [O2.ring] at hjl2
      repeat (first | refine GD ?_ | refine NW fun _ => ?_)
      refine WL.step rfl (OP.callRO rfl rfl (crounds_ro p q g (a, n, c) C3) (Ent.at (up_crdA _ _ _ _ _) MM) rfl rfl ?_)
      by_cases hz : C3.R.number = 0
      · repeat (first | refine GD ?_ | refine NW fun _ => ?_)
        refine WC.loop (σ := Nat) (fun j => j ≤ rows.length)
          (fun j => [(0, .val (.slice a n c)), (1, .val (.slice (some ⟨b, off, none⟩) n1 c1)), (5, .val (.pointer (some ⟨p, 0, none⟩))), (7, .val (.slice ma rows.length mc)), (8, .val (.slice a' told2.length cap')), (44, .val (.int .i64 n1)), (45, .val (.int .i64 k)), (157, .val (.int .i64 rows.length)), (158, .val (.int .i64 j))])
          (fun _ => [irowsA rows, ownS ma rows.length mc 23 1 (rows.map irowV), ownS a' told2.length cap' 63 3 (told2.flatMap encCmd), crdA p q g (a, n, c) C3, dsk q C3.D, A]) (fun j => rows.length - j) 0 (Nat.zero_le _) ⟨rfl, rfl, rfl, rfl, rfl, rfl, rfl, rfl, rfl, trivial⟩ II ?_
        intro j hj
        by_cases hjl : j < rows.length
        · have hgt := gat_rt g C3.f C3.ch ((j : Int) + 1) O2.I.f4 O2.I.vols O2.I.few
          rw [show listM (atM ((j : Int) + 1) C3.f C3.ch) = (rows[j]).2.2 from (hrow2 j hjl).symm] at hgt
          have h4 : (rows[j]).2.2.length ≤ 4 := by
            rw [hrow2 j hjl]
            have := listM_len (atM ((j : Int) + 1) C3.f C3.ch)
            rw [atM_length, O2.I.f4] at this
            exact this
          refine WC.fact (Ent.some (Ent.own (a := ma) (n := rows.length) (cap := mc) (T := 23) (size := 1) (cs := rows.map irowV) MM) (by omega)) ?_
          rintro ⟨bM, oM, rfl⟩
          repeat (first | refine GD ?_ | refine NW fun _ => ?_)
          refine RD 11 11 (_) ?_
          refine WP 0 ?_
          refine WP 2 ?_
          refine WP 3 ?_
          refine WP 5 ?_
          refine WP 6 ?_
          refine WP 7 ?_
          refine VL 8 (irowV rows[j]) rfl rfl rfl rfl (.inl ⟨rfl, Ent.elem (i := j * 1) (Ent.own (T := 23) (n := rows.length) (cap := mc) MM) rfl (irowsV_get hjl)⟩) ?_
          refine WH.only 1 rfl rfl (by kernel_rfl) rfl (OP.callRO rfl rfl (cgroup_ro p q g (a, n, c) C3) (Ent.at (up_crdA _ _ _ _ _) MM) rfl rfl ⟨fun _ => II, ?_⟩)
          refine WH.only 4 rfl rfl (by kernel_rfl) rfl (OP.callRT rfl rfl hgt (crd_grp (C := C3) (p := p) (q := q) (fv := (a, n, c)) MM) rfl rfl (fun x3 E3 hE3 => ?_))
          obtain ⟨aO, cO, rfl, rfl⟩ := hE3
          refine ⟨fun _ => II, ?_⟩
          refine WH.only 9 rfl rfl (by kernel_rfl) rfl (OP.callRO rfl rfl (csame_ro aO (rows[j]).1 (rows[j]).2.2.length cO (rows[j]).2.2.length (rows[j]).2.1 (rows[j]).2.2 (rows[j]).2.2 rfl rfl (by omega)) (Ent.and (Ent.own (T := 3) (cap := cO) MM) (irowsA_get MM hjl)) rfl rfl ⟨fun _ => II, ?_⟩)
          rw [decide_eq_true (rfl : (rows[j]).2.2 = (rows[j]).2.2)]
          refine WP 10 ?_
          refine DN ?_
          repeat (first | refine GD ?_ | refine NW fun _ => ?_)
          exact ⟨j + 1, by omega, by omega, ⟨rfl, rfl, rfl, rfl, rfl, rfl, rfl, rfl, rfl, trivial⟩, II⟩
        have hje : j = rows.length := by omega
        subst hje
        repeat (first | refine GD ?_ | refine NW fun _ => ?_)
        exact ⟨(k + 1, C3, rows, ma, mc, told2, a', cap'), ⟨by dsimp only; omega, O2⟩, by dsimp only; omega, ⟨rfl, rfl, rfl, rfl, rfl, rfl, rfl, trivial⟩, II⟩
      · have hz2 : C3.R.number = C3.last := hrnum.resolve_left hz
        repeat (first | refine GD ?_ | refine NW fun _ => ?_)
        refine WC.loop (σ := Nat) (fun j => j ≤ rows.length)
          (fun j => [(0, .val (.slice a n c)), (1, .val (.slice (some ⟨b, off, none⟩) n1 c1)), (5, .val (.pointer (some ⟨p, 0, none⟩))), (7, .val (.slice ma rows.length mc)), (8, .val (.slice a' told2.length cap')), (44, .val (.int .i64 n1)), (45, .val (.int .i64 k)), (157, .val (.int .i64 rows.length)), (158, .val (.int .i64 j))])
          (fun _ => [irowsA rows, ownS ma rows.length mc 23 1 (rows.map irowV), ownS a' told2.length cap' 63 3 (told2.flatMap encCmd), crdA p q g (a, n, c) C3, dsk q C3.D, A]) (fun j => rows.length - j) 0 (Nat.zero_le _) ⟨rfl, rfl, rfl, rfl, rfl, rfl, rfl, rfl, rfl, trivial⟩ II ?_
        intro j hj
        by_cases hjl : j < rows.length
        · have hgt := gat_rt g C3.f C3.ch ((j : Int) + 1) O2.I.f4 O2.I.vols O2.I.few
          rw [show listM (atM ((j : Int) + 1) C3.f C3.ch) = (rows[j]).2.2 from (hrow2 j hjl).symm] at hgt
          have h4 : (rows[j]).2.2.length ≤ 4 := by
            rw [hrow2 j hjl]
            have := listM_len (atM ((j : Int) + 1) C3.f C3.ch)
            rw [atM_length, O2.I.f4] at this
            exact this
          refine WC.fact (Ent.some (Ent.own (a := ma) (n := rows.length) (cap := mc) (T := 23) (size := 1) (cs := rows.map irowV) MM) (by omega)) ?_
          rintro ⟨bM, oM, rfl⟩
          repeat (first | refine GD ?_ | refine NW fun _ => ?_)
          refine RD 11 11 (_) ?_
          refine WP 0 ?_
          refine WP 2 ?_
          refine WP 3 ?_
          refine WP 5 ?_
          refine WP 6 ?_
          refine WP 7 ?_
          refine VL 8 (irowV rows[j]) rfl rfl rfl rfl (.inl ⟨rfl, Ent.elem (i := j * 1) (Ent.own (T := 23) (n := rows.length) (cap := mc) MM) rfl (irowsV_get hjl)⟩) ?_
          refine WH.only 1 rfl rfl (by kernel_rfl) rfl (OP.callRO rfl rfl (cgroup_ro p q g (a, n, c) C3) (Ent.at (up_crdA _ _ _ _ _) MM) rfl rfl ⟨fun _ => II, ?_⟩)
          refine WH.only 4 rfl rfl (by kernel_rfl) rfl (OP.callRT rfl rfl hgt (crd_grp (C := C3) (p := p) (q := q) (fv := (a, n, c)) MM) rfl rfl (fun x3 E3 hE3 => ?_))
          obtain ⟨aO, cO, rfl, rfl⟩ := hE3
          refine ⟨fun _ => II, ?_⟩
          refine WH.only 9 rfl rfl (by kernel_rfl) rfl (OP.callRO rfl rfl (csame_ro aO (rows[j]).1 (rows[j]).2.2.length cO (rows[j]).2.2.length (rows[j]).2.1 (rows[j]).2.2 (rows[j]).2.2 rfl rfl (by omega)) (Ent.and (Ent.own (T := 3) (cap := cO) MM) (irowsA_get MM hjl)) rfl rfl ⟨fun _ => II, ?_⟩)
          rw [decide_eq_true (rfl : (rows[j]).2.2 = (rows[j]).2.2)]
          refine WP 10 ?_
          refine DN ?_
          repeat (first | refine GD ?_ | refine NW fun _ => ?_)
          exact ⟨j + 1, by omega, by omega, ⟨rfl, rfl, rfl, rfl, rfl, rfl, rfl, rfl, rfl, trivial⟩, II⟩
        have hje : j = rows.length := by omega
        subst hje
        repeat (first | refine GD ?_ | refine NW fun _ => ?_)
        exact ⟨(k + 1, C3, rows, ma, mc, told2, a', cap'), ⟨by dsimp only; omega, O2⟩, by dsimp only; omega, ⟨rfl, rfl, rfl, rfl, rfl, rfl, rfl, trivial⟩, II⟩
  by_cases k3 : kd = 3
  · subst k3
    have htk := ctick_ok p q g (a, n, c) C _ O.I (by have := O.I.R.vl; omega)
    have hl3 : (tickC C).1.length ≤ 4 := tick_few O.I.R
    have O2 : OnceI (k + 1) f (tickC C).2 rows (told ++ (tickC C).1) := O.keep (O.I.tick.mono (by omega)) rfl rfl rfl (.inl rfl) (by rw [List.length_append]; omega)
    have hD : (tickC C).2.D = C.D := rfl
    rw [← hD]
    generalize tickC C = tk at *
    obtain ⟨l3, C3⟩ := tk
    dsimp only at htk hl3 O2 ⊢
    repeat (first | refine GD ?_ | refine NW fun _ => ?_)
    refine WL.step rfl (OP.call (pre := [crdA p q g _ C]) rfl rfl htk PS rfl rfl ?_)
    rintro _ _ ⟨_, ⟨xa3, xc3, rfl, rfl⟩, rfl⟩
    refine WL.step rfl (OP.append rfl rfl rfl rfl rfl rfl rfl rfl rfl (show Imp _ (ownS ta told.length tc 63 3 (told.flatMap encCmd) :: _) from P1) (Ent.own MM) (cmd_one _) (by omega) (by omega) rfl rfl (fun a' cap' => ?_))
    rw [← List.length_append, ← List.flatMap_append]
    generalize hto : told ++ l3 = told2 at *
    have hrl2 := O2.len
    have hrnum := O2.I.R.num
    have hmk2 := O2.I.marked
    have hlast2 := O2.I.last
    have hrow2 := O2.row
    have hjl2 := O2.I.J.len
    rw [O2.ring] at hjl2
    repeat (first | refine GD ?_ | refine NW fun _ => ?_)
    refine WL.step rfl (OP.callRO rfl rfl (crounds_ro p q g (a, n, c) C3) (Ent.at (up_crdA _ _ _ _ _) MM) rfl rfl ?_)
    by_cases hz : C3.R.number = 0
    · repeat (first | refine GD ?_ | refine NW fun _ => ?_)
      refine WC.loop (σ := Nat) (fun j => j ≤ rows.length)
        (fun j => [(0, .val (.slice a n c)), (1, .val (.slice (some ⟨b, off, none⟩) n1 c1)), (5, .val (.pointer (some ⟨p, 0, none⟩))), (7, .val (.slice ma rows.length mc)), (8, .val (.slice a' told2.length cap')), (44, .val (.int .i64 n1)), (45, .val (.int .i64 k)), (157, .val (.int .i64 rows.length)), (158, .val (.int .i64 j))])
        (fun _ => [irowsA rows, ownS ma rows.length mc 23 1 (rows.map irowV), ownS a' told2.length cap' 63 3 (told2.flatMap encCmd), crdA p q g (a, n, c) C3, dsk q C3.D, A]) (fun j => rows.length - j) 0 (Nat.zero_le _) ⟨rfl, rfl, rfl, rfl, rfl, rfl, rfl, rfl, rfl, trivial⟩ II ?_
      intro j hj
      by_cases hjl : j < rows.length
      · have hgt := gat_rt g C3.f C3.ch ((j : Int) + 1) O2.I.f4 O2.I.vols O2.I.few
        rw [show listM (atM ((j : Int) + 1) C3.f C3.ch) = (rows[j]).2.2 from (hrow2 j hjl).symm] at hgt
        have h4 : (rows[j]).2.2.length ≤ 4 := by
          rw [hrow2 j hjl]
          have := listM_len (atM ((j : Int) + 1) C3.f C3.ch)
          rw [atM_length, O2.I.f4] at this
          exact this
        refine WC.fact (Ent.some (Ent.own (a := ma) (n := rows.length) (cap := mc) (T := 23) (size := 1) (cs := rows.map irowV) MM) (by omega)) ?_
        rintro ⟨bM, oM, rfl⟩
        repeat (first | refine GD ?_ | refine NW fun _ => ?_)
        refine RD 11 11 (_) ?_
        refine WP 0 ?_
        refine WP 2 ?_
        refine WP 3 ?_
        refine WP 5 ?_
        refine WP 6 ?_
        refine WP 7 ?_
        refine VL 8 (irowV rows[j]) rfl rfl rfl rfl (.inl ⟨rfl, Ent.elem (i := j * 1) (Ent.own (T := 23) (n := rows.length) (cap := mc) MM) rfl (irowsV_get hjl)⟩) ?_
        refine WH.only 1 rfl rfl (by kernel_rfl) rfl (OP.callRO rfl rfl (cgroup_ro p q g (a, n, c) C3) (Ent.at (up_crdA _ _ _ _ _) MM) rfl rfl ⟨fun _ => II, ?_⟩)
        refine WH.only 4 rfl rfl (by kernel_rfl) rfl (OP.callRT rfl rfl hgt (crd_grp (C := C3) (p := p) (q := q) (fv := (a, n, c)) MM) rfl rfl (fun x3 E3 hE3 => ?_))
        obtain ⟨aO, cO, rfl, rfl⟩ := hE3
        refine ⟨fun _ => II, ?_⟩
        refine WH.only 9 rfl rfl (by kernel_rfl) rfl (OP.callRO rfl rfl (csame_ro aO (rows[j]).1 (rows[j]).2.2.length cO (rows[j]).2.2.length (rows[j]).2.1 (rows[j]).2.2 (rows[j]).2.2 rfl rfl (by omega)) (Ent.and (Ent.own (T := 3) (cap := cO) MM) (irowsA_get MM hjl)) rfl rfl ⟨fun _ => II, ?_⟩)
        rw [decide_eq_true (rfl : (rows[j]).2.2 = (rows[j]).2.2)]
        refine WP 10 ?_
        refine DN ?_
        repeat (first | refine GD ?_ | refine NW fun _ => ?_)
        exact ⟨j + 1, by omega, by omega, ⟨rfl, rfl, rfl, rfl, rfl, rfl, rfl, rfl, rfl, trivial⟩, II⟩
      have hje : j = rows.length := by omega
      subst hje
      repeat (first | refine GD ?_ | refine NW fun _ => ?_)
      exact ⟨(k + 1, C3, rows, ma, mc, told2, a', cap'), ⟨by dsimp only; omega, O2⟩, by dsimp only; omega, ⟨rfl, rfl, rfl, rfl, rfl, rfl, rfl, trivial⟩, II⟩
    · have hz2 : C3.R.number = C3.last := hrnum.resolve_left hz
      repeat (first | refine GD ?_ | refine NW fun _ => ?_)
      refine WC.loop (σ := Nat) (fun j => j ≤ rows.length)
        (fun j => [(0, .val (.slice a n c)), (1, .val (.slice (some ⟨b, off, none⟩) n1 c1)), (5, .val (.pointer (some ⟨p, 0, none⟩))), (7, .val (.slice ma rows.length mc)), (8, .val (.slice a' told2.length cap')), (44, .val (.int .i64 n1)), (45, .val (.int .i64 k)), (157, .val (.int .i64 rows.length)), (158, .val (.int .i64 j))])
        (fun _ => [irowsA rows, ownS ma rows.length mc 23 1 (rows.map irowV), ownS a' told2.length cap' 63 3 (told2.flatMap encCmd), crdA p q g (a, n, c) C3, dsk q C3.D, A]) (fun j => rows.length - j) 0 (Nat.zero_le _) ⟨rfl, rfl, rfl, rfl, rfl, rfl, rfl, rfl, rfl, trivial⟩ II ?_
      intro j hj
      by_cases hjl : j < rows.length
      · have hgt := gat_rt g C3.f C3.ch ((j : Int) + 1) O2.I.f4 O2.I.vols O2.I.few
        rw [show listM (atM ((j : Int) + 1) C3.f C3.ch) = (rows[j]).2.2 from (hrow2 j hjl).symm] at hgt
        have h4 : (rows[j]).2.2.length ≤ 4 := by
          rw [hrow2 j hjl]
          have := listM_len (atM ((j : Int) + 1) C3.f C3.ch)
          rw [atM_length, O2.I.f4] at this
          exact this
        refine WC.fact (Ent.some (Ent.own (a := ma) (n := rows.length) (cap := mc) (T := 23) (size := 1) (cs := rows.map irowV) MM) (by omega)) ?_
        rintro ⟨bM, oM, rfl⟩
        repeat (first | refine GD ?_ | refine NW fun _ => ?_)
        refine RD 11 11 (_) ?_
        refine WP 0 ?_
        refine WP 2 ?_
        refine WP 3 ?_
        refine WP 5 ?_
        refine WP 6 ?_
        refine WP 7 ?_
        refine VL 8 (irowV rows[j]) rfl rfl rfl rfl (.inl ⟨rfl, Ent.elem (i := j * 1) (Ent.own (T := 23) (n := rows.length) (cap := mc) MM) rfl (irowsV_get hjl)⟩) ?_
        refine WH.only 1 rfl rfl (by kernel_rfl) rfl (OP.callRO rfl rfl (cgroup_ro p q g (a, n, c) C3) (Ent.at (up_crdA _ _ _ _ _) MM) rfl rfl ⟨fun _ => II, ?_⟩)
        refine WH.only 4 rfl rfl (by kernel_rfl) rfl (OP.callRT rfl rfl hgt (crd_grp (C := C3) (p := p) (q := q) (fv := (a, n, c)) MM) rfl rfl (fun x3 E3 hE3 => ?_))
        obtain ⟨aO, cO, rfl, rfl⟩ := hE3
        refine ⟨fun _ => II, ?_⟩
        refine WH.only 9 rfl rfl (by kernel_rfl) rfl (OP.callRO rfl rfl (csame_ro aO (rows[j]).1 (rows[j]).2.2.length cO (rows[j]).2.2.length (rows[j]).2.1 (rows[j]).2.2 (rows[j]).2.2 rfl rfl (by omega)) (Ent.and (Ent.own (T := 3) (cap := cO) MM) (irowsA_get MM hjl)) rfl rfl ⟨fun _ => II, ?_⟩)
        rw [decide_eq_true (rfl : (rows[j]).2.2 = (rows[j]).2.2)]
        refine WP 10 ?_
        refine DN ?_
        repeat (first | refine GD ?_ | refine NW fun _ => ?_)
        exact ⟨j + 1, by omega, by omega, ⟨rfl, rfl, rfl, rfl, rfl, rfl, rfl, rfl, rfl, trivial⟩, II⟩
      have hje : j = rows.length := by omega
      subst hje
      repeat (first | refine GD ?_ | refine NW fun _ => ?_)
      exact ⟨(k + 1, C3, rows, ma, mc, told2, a', cap'), ⟨by dsimp only; omega, O2⟩, by dsimp only; omega, ⟨rfl, rfl, rfl, rfl, rfl, rfl, rfl, trivial⟩, II⟩
  by_cases k4 : kd = 4
  · subst k4
    have hcg := cchg_ok p q g (a, n, c) C _ vol inn O.I (by omega)
    unfold ChangeCo at hcg
    cases hcd : changeC C vol inn with
    | error lc =>
      obtain ⟨le, ce⟩ := lc
      rw [hcd] at hcg
      have O2 : OnceI (k + 1) f C rows told := O.keep (O.I.mono (by omega)) rfl rfl rfl (.inl rfl) (by omega)
      repeat (first | refine GD ?_ | refine NW fun _ => ?_)
      refine WL.step rfl (OP.call (pre := [crdA p q g _ C, dsk q C.D]) rfl rfl hcg PS rfl rfl ?_)
      rintro v0 _ ⟨E, hE, rfl⟩
      refine WL.imp (M := [irowsA rows, ownS ma rows.length mc 23 1 (rows.map irowV), ownS ta told.length tc 63 3 (told.flatMap encCmd), crdA p q g (a, n, c) C, dsk q C.D, A]) (by rw [List.append_assoc]; exact Imp.trans (Imp.dropL E _) II) ?_
      have hrl2 := O2.len
      have hrnum := O2.I.R.num
      have hmk2 := O2.I.marked
      have hlast2 := O2.I.last
      have hrow2 := O2.row
      have hjl2 := O2.I.J.len
      rw [O2.ring] at hjl2
      repeat (first | refine GD ?_ | refine NW fun _ => ?_)
      refine WL.step rfl (OP.callRO rfl rfl (crounds_ro p q g (a, n, c) C) (Ent.at (up_crdA _ _ _ _ _) MM) rfl rfl ?_)
      by_cases hz : C.R.number = 0
      · repeat (first | refine GD ?_ | refine NW fun _ => ?_)
        refine WC.loop (σ := Nat) (fun j => j ≤ rows.length)
          (fun j => [(0, .val (.slice a n c)), (1, .val (.slice (some ⟨b, off, none⟩) n1 c1)), (5, .val (.pointer (some ⟨p, 0, none⟩))), (7, .val (.slice ma rows.length mc)), (8, .val (.slice ta told.length tc)), (44, .val (.int .i64 n1)), (45, .val (.int .i64 k)), (157, .val (.int .i64 rows.length)), (158, .val (.int .i64 j))])
          (fun _ => [irowsA rows, ownS ma rows.length mc 23 1 (rows.map irowV), ownS ta told.length tc 63 3 (told.flatMap encCmd), crdA p q g (a, n, c) C, dsk q C.D, A]) (fun j => rows.length - j) 0 (Nat.zero_le _) ⟨rfl, rfl, rfl, rfl, rfl, rfl, rfl, rfl, rfl, trivial⟩ II ?_
        intro j hj
        by_cases hjl : j < rows.length
        · have hgt := gat_rt g C.f C.ch ((j : Int) + 1) O2.I.f4 O2.I.vols O2.I.few
          rw [show listM (atM ((j : Int) + 1) C.f C.ch) = (rows[j]).2.2 from (hrow2 j hjl).symm] at hgt
          have h4 : (rows[j]).2.2.length ≤ 4 := by
            rw [hrow2 j hjl]
            have := listM_len (atM ((j : Int) + 1) C.f C.ch)
            rw [atM_length, O2.I.f4] at this
            exact this
          refine WC.fact (Ent.some (Ent.own (a := ma) (n := rows.length) (cap := mc) (T := 23) (size := 1) (cs := rows.map irowV) MM) (by omega)) ?_
          rintro ⟨bM, oM, rfl⟩
          repeat (first | refine GD ?_ | refine NW fun _ => ?_)
          refine RD 11 11 (_) ?_
          refine WP 0 ?_
          refine WP 2 ?_
          refine WP 3 ?_
          refine WP 5 ?_
          refine WP 6 ?_
          refine WP 7 ?_
          refine VL 8 (irowV rows[j]) rfl rfl rfl rfl (.inl ⟨rfl, Ent.elem (i := j * 1) (Ent.own (T := 23) (n := rows.length) (cap := mc) MM) rfl (irowsV_get hjl)⟩) ?_
          refine WH.only 1 rfl rfl (by kernel_rfl) rfl (OP.callRO rfl rfl (cgroup_ro p q g (a, n, c) C) (Ent.at (up_crdA _ _ _ _ _) MM) rfl rfl ⟨fun _ => II, ?_⟩)
          refine WH.only 4 rfl rfl (by kernel_rfl) rfl (OP.callRT rfl rfl hgt (crd_grp (C := C) (p := p) (q := q) (fv := (a, n, c)) MM) rfl rfl (fun x3 E3 hE3 => ?_))
          obtain ⟨aO, cO, rfl, rfl⟩ := hE3
          refine ⟨fun _ => II, ?_⟩
          refine WH.only 9 rfl rfl (by kernel_rfl) rfl (OP.callRO rfl rfl (csame_ro aO (rows[j]).1 (rows[j]).2.2.length cO (rows[j]).2.2.length (rows[j]).2.1 (rows[j]).2.2 (rows[j]).2.2 rfl rfl (by omega)) (Ent.and (Ent.own (T := 3) (cap := cO) MM) (irowsA_get MM hjl)) rfl rfl ⟨fun _ => II, ?_⟩)
          rw [decide_eq_true (rfl : (rows[j]).2.2 = (rows[j]).2.2)]
          refine WP 10 ?_
          refine DN ?_
          repeat (first | refine GD ?_ | refine NW fun _ => ?_)
          exact ⟨j + 1, by omega, by omega, ⟨rfl, rfl, rfl, rfl, rfl, rfl, rfl, rfl, rfl, trivial⟩, II⟩
        have hje : j = rows.length := by omega
        subst hje
        repeat (first | refine GD ?_ | refine NW fun _ => ?_)
        exact ⟨(k + 1, C, rows, ma, mc, told, ta, tc), ⟨by dsimp only; omega, O2⟩, by dsimp only; omega, ⟨rfl, rfl, rfl, rfl, rfl, rfl, rfl, trivial⟩, II⟩
      · have hz2 : C.R.number = C.last := hrnum.resolve_left hz
        repeat (first | refine GD ?_ | refine NW fun _ => ?_)
        refine WC.loop (σ := Nat) (fun j => j ≤ rows.length)
          (fun j => [(0, .val (.slice a n c)), (1, .val (.slice (some ⟨b, off, none⟩) n1 c1)), (5, .val (.pointer (some ⟨p, 0, none⟩))), (7, .val (.slice ma rows.length mc)), (8, .val (.slice ta told.length tc)), (44, .val (.int .i64 n1)), (45, .val (.int .i64 k)), (157, .val (.int .i64 rows.length)), (158, .val (.int .i64 j))])
          (fun _ => [irowsA rows, ownS ma rows.length mc 23 1 (rows.map irowV), ownS ta told.length tc 63 3 (told.flatMap encCmd), crdA p q g (a, n, c) C, dsk q C.D, A]) (fun j => rows.length - j) 0 (Nat.zero_le _) ⟨rfl, rfl, rfl, rfl, rfl, rfl, rfl, rfl, rfl, trivial⟩ II ?_
        intro j hj
        by_cases hjl : j < rows.length
        · have hgt := gat_rt g C.f C.ch ((j : Int) + 1) O2.I.f4 O2.I.vols O2.I.few
          rw [show listM (atM ((j : Int) + 1) C.f C.ch) = (rows[j]).2.2 from (hrow2 j hjl).symm] at hgt
          have h4 : (rows[j]).2.2.length ≤ 4 := by
            rw [hrow2 j hjl]
            have := listM_len (atM ((j : Int) + 1) C.f C.ch)
            rw [atM_length, O2.I.f4] at this
            exact this
          refine WC.fact (Ent.some (Ent.own (a := ma) (n := rows.length) (cap := mc) (T := 23) (size := 1) (cs := rows.map irowV) MM) (by omega)) ?_
          rintro ⟨bM, oM, rfl⟩
          repeat (first | refine GD ?_ | refine NW fun _ => ?_)
          refine RD 11 11 (_) ?_
          refine WP 0 ?_
          refine WP 2 ?_
          refine WP 3 ?_
          refine WP 5 ?_
          refine WP 6 ?_
          refine WP 7 ?_
          refine VL 8 (irowV rows[j]) rfl rfl rfl rfl (.inl ⟨rfl, Ent.elem (i := j * 1) (Ent.own (T := 23) (n := rows.length) (cap := mc) MM) rfl (irowsV_get hjl)⟩) ?_
          refine WH.only 1 rfl rfl (by kernel_rfl) rfl (OP.callRO rfl rfl (cgroup_ro p q g (a, n, c) C) (Ent.at (up_crdA _ _ _ _ _) MM) rfl rfl ⟨fun _ => II, ?_⟩)
          refine WH.only 4 rfl rfl (by kernel_rfl) rfl (OP.callRT rfl rfl hgt (crd_grp (C := C) (p := p) (q := q) (fv := (a, n, c)) MM) rfl rfl (fun x3 E3 hE3 => ?_))
          obtain ⟨aO, cO, rfl, rfl⟩ := hE3
          refine ⟨fun _ => II, ?_⟩
          refine WH.only 9 rfl rfl (by kernel_rfl) rfl (OP.callRO rfl rfl (csame_ro aO (rows[j]).1 (rows[j]).2.2.length cO (rows[j]).2.2.length (rows[j]).2.1 (rows[j]).2.2 (rows[j]).2.2 rfl rfl (by omega)) (Ent.and (Ent.own (T := 3) (cap := cO) MM) (irowsA_get MM hjl)) rfl rfl ⟨fun _ => II, ?_⟩)
          rw [decide_eq_true (rfl : (rows[j]).2.2 = (rows[j]).2.2)]
          refine WP 10 ?_
          refine DN ?_
          repeat (first | refine GD ?_ | refine NW fun _ => ?_)
          exact ⟨j + 1, by omega, by omega, ⟨rfl, rfl, rfl, rfl, rfl, rfl, rfl, rfl, rfl, trivial⟩, II⟩
        have hje : j = rows.length := by omega
        subst hje
        repeat (first | refine GD ?_ | refine NW fun _ => ?_)
        exact ⟨(k + 1, C, rows, ma, mc, told, ta, tc), ⟨by dsimp only; omega, O2⟩, by dsimp only; omega, ⟨rfl, rfl, rfl, rfl, rfl, rfl, rfl, trivial⟩, II⟩
    | ok C1 =>
      rw [hcd] at hcg
      obtain ⟨I1, hl1, hf1, _, _, _, hch1, hr1, _⟩ := O.I.change (by omega) hcd
      have O2 : OnceI (k + 1) f C1 rows told := O.keep (I1.mono (by omega)) hf1 hl1 hr1 (.inr ⟨vol, _, hch1⟩) (by omega)
      repeat (first | refine GD ?_ | refine NW fun _ => ?_)
      refine WL.step rfl (OP.call (pre := [crdA p q g _ C, dsk q C.D]) rfl rfl hcg PS rfl rfl ?_)
      rintro _ _ ⟨rfl, rfl⟩
      have hrl2 := O2.len
      have hrnum := O2.I.R.num
      have hmk2 := O2.I.marked
      have hlast2 := O2.I.last
      have hrow2 := O2.row
      have hjl2 := O2.I.J.len
      rw [O2.ring] at hjl2
      repeat (first | refine GD ?_ | refine NW fun _ => ?_)
      refine WL.step rfl (OP.callRO rfl rfl (crounds_ro p q g (a, n, c) C1) (Ent.at (up_crdA _ _ _ _ _) MM) rfl rfl ?_)
      by_cases hz : C1.R.number = 0
      · repeat (first | refine GD ?_ | refine NW fun _ => ?_)
        refine WC.loop (σ := Nat) (fun j => j ≤ rows.length)
          (fun j => [(0, .val (.slice a n c)), (1, .val (.slice (some ⟨b, off, none⟩) n1 c1)), (5, .val (.pointer (some ⟨p, 0, none⟩))), (7, .val (.slice ma rows.length mc)), (8, .val (.slice ta told.length tc)), (44, .val (.int .i64 n1)), (45, .val (.int .i64 k)), (157, .val (.int .i64 rows.length)), (158, .val (.int .i64 j))])
          (fun _ => [irowsA rows, ownS ma rows.length mc 23 1 (rows.map irowV), ownS ta told.length tc 63 3 (told.flatMap encCmd), crdA p q g (a, n, c) C1, dsk q C1.D, A]) (fun j => rows.length - j) 0 (Nat.zero_le _) ⟨rfl, rfl, rfl, rfl, rfl, rfl, rfl, rfl, rfl, trivial⟩ II ?_
        intro j hj
        by_cases hjl : j < rows.length
        · have hgt := gat_rt g C1.f C1.ch ((j : Int) + 1) O2.I.f4 O2.I.vols O2.I.few
          rw [show listM (atM ((j : Int) + 1) C1.f C1.ch) = (rows[j]).2.2 from (hrow2 j hjl).symm] at hgt
          have h4 : (rows[j]).2.2.length ≤ 4 := by
            rw [hrow2 j hjl]
            have := listM_len (atM ((j : Int) + 1) C1.f C1.ch)
            rw [atM_length, O2.I.f4] at this
            exact this
          refine WC.fact (Ent.some (Ent.own (a := ma) (n := rows.length) (cap := mc) (T := 23) (size := 1) (cs := rows.map irowV) MM) (by omega)) ?_
          rintro ⟨bM, oM, rfl⟩
          repeat (first | refine GD ?_ | refine NW fun _ => ?_)
          refine RD 11 11 (_) ?_
          refine WP 0 ?_
          refine WP 2 ?_
          refine WP 3 ?_
          refine WP 5 ?_
          refine WP 6 ?_
          refine WP 7 ?_
          refine VL 8 (irowV rows[j]) rfl rfl rfl rfl (.inl ⟨rfl, Ent.elem (i := j * 1) (Ent.own (T := 23) (n := rows.length) (cap := mc) MM) rfl (irowsV_get hjl)⟩) ?_
          refine WH.only 1 rfl rfl (by kernel_rfl) rfl (OP.callRO rfl rfl (cgroup_ro p q g (a, n, c) C1) (Ent.at (up_crdA _ _ _ _ _) MM) rfl rfl ⟨fun _ => II, ?_⟩)
          refine WH.only 4 rfl rfl (by kernel_rfl) rfl (OP.callRT rfl rfl hgt (crd_grp (C := C1) (p := p) (q := q) (fv := (a, n, c)) MM) rfl rfl (fun x3 E3 hE3 => ?_))
          obtain ⟨aO, cO, rfl, rfl⟩ := hE3
          refine ⟨fun _ => II, ?_⟩
          refine WH.only 9 rfl rfl (by kernel_rfl) rfl (OP.callRO rfl rfl (csame_ro aO (rows[j]).1 (rows[j]).2.2.length cO (rows[j]).2.2.length (rows[j]).2.1 (rows[j]).2.2 (rows[j]).2.2 rfl rfl (by omega)) (Ent.and (Ent.own (T := 3) (cap := cO) MM) (irowsA_get MM hjl)) rfl rfl ⟨fun _ => II, ?_⟩)
          rw [decide_eq_true (rfl : (rows[j]).2.2 = (rows[j]).2.2)]
          refine WP 10 ?_
          refine DN ?_
          repeat (first | refine GD ?_ | refine NW fun _ => ?_)
          exact ⟨j + 1, by omega, by omega, ⟨rfl, rfl, rfl, rfl, rfl, rfl, rfl, rfl, rfl, trivial⟩, II⟩
        have hje : j = rows.length := by omega
        subst hje
        repeat (first | refine GD ?_ | refine NW fun _ => ?_)
        exact ⟨(k + 1, C1, rows, ma, mc, told, ta, tc), ⟨by dsimp only; omega, O2⟩, by dsimp only; omega, ⟨rfl, rfl, rfl, rfl, rfl, rfl, rfl, trivial⟩, II⟩
      · have hz2 : C1.R.number = C1.last := hrnum.resolve_left hz
        repeat (first | refine GD ?_ | refine NW fun _ => ?_)
        refine WC.loop (σ := Nat) (fun j => j ≤ rows.length)
          (fun j => [(0, .val (.slice a n c)), (1, .val (.slice (some ⟨b, off, none⟩) n1 c1)), (5, .val (.pointer (some ⟨p, 0, none⟩))), (7, .val (.slice ma rows.length mc)), (8, .val (.slice ta told.length tc)), (44, .val (.int .i64 n1)), (45, .val (.int .i64 k)), (157, .val (.int .i64 rows.length)), (158, .val (.int .i64 j))])
          (fun _ => [irowsA rows, ownS ma rows.length mc 23 1 (rows.map irowV), ownS ta told.length tc 63 3 (told.flatMap encCmd), crdA p q g (a, n, c) C1, dsk q C1.D, A]) (fun j => rows.length - j) 0 (Nat.zero_le _) ⟨rfl, rfl, rfl, rfl, rfl, rfl, rfl, rfl, rfl, trivial⟩ II ?_
        intro j hj
        by_cases hjl : j < rows.length
        · have hgt := gat_rt g C1.f C1.ch ((j : Int) + 1) O2.I.f4 O2.I.vols O2.I.few
          rw [show listM (atM ((j : Int) + 1) C1.f C1.ch) = (rows[j]).2.2 from (hrow2 j hjl).symm] at hgt
          have h4 : (rows[j]).2.2.length ≤ 4 := by
            rw [hrow2 j hjl]
            have := listM_len (atM ((j : Int) + 1) C1.f C1.ch)
            rw [atM_length, O2.I.f4] at this
            exact this
          refine WC.fact (Ent.some (Ent.own (a := ma) (n := rows.length) (cap := mc) (T := 23) (size := 1) (cs := rows.map irowV) MM) (by omega)) ?_
          rintro ⟨bM, oM, rfl⟩
          repeat (first | refine GD ?_ | refine NW fun _ => ?_)
          refine RD 11 11 (_) ?_
          refine WP 0 ?_
          refine WP 2 ?_
          refine WP 3 ?_
          refine WP 5 ?_
          refine WP 6 ?_
          refine WP 7 ?_
          refine VL 8 (irowV rows[j]) rfl rfl rfl rfl (.inl ⟨rfl, Ent.elem (i := j * 1) (Ent.own (T := 23) (n := rows.length) (cap := mc) MM) rfl (irowsV_get hjl)⟩) ?_
          refine WH.only 1 rfl rfl (by kernel_rfl) rfl (OP.callRO rfl rfl (cgroup_ro p q g (a, n, c) C1) (Ent.at (up_crdA _ _ _ _ _) MM) rfl rfl ⟨fun _ => II, ?_⟩)
          refine WH.only 4 rfl rfl (by kernel_rfl) rfl (OP.callRT rfl rfl hgt (crd_grp (C := C1) (p := p) (q := q) (fv := (a, n, c)) MM) rfl rfl (fun x3 E3 hE3 => ?_))
          obtain ⟨aO, cO, rfl, rfl⟩ := hE3
          refine ⟨fun _ => II, ?_⟩
          refine WH.only 9 rfl rfl (by kernel_rfl) rfl (OP.callRO rfl rfl (csame_ro aO (rows[j]).1 (rows[j]).2.2.length cO (rows[j]).2.2.length (rows[j]).2.1 (rows[j]).2.2 (rows[j]).2.2 rfl rfl (by omega)) (Ent.and (Ent.own (T := 3) (cap := cO) MM) (irowsA_get MM hjl)) rfl rfl ⟨fun _ => II, ?_⟩)
          rw [decide_eq_true (rfl : (rows[j]).2.2 = (rows[j]).2.2)]
          refine WP 10 ?_
          refine DN ?_
          repeat (first | refine GD ?_ | refine NW fun _ => ?_)
          exact ⟨j + 1, by omega, by omega, ⟨rfl, rfl, rfl, rfl, rfl, rfl, rfl, rfl, rfl, trivial⟩, II⟩
        have hje : j = rows.length := by omega
        subst hje
        repeat (first | refine GD ?_ | refine NW fun _ => ?_)
        exact ⟨(k + 1, C1, rows, ma, mc, told, ta, tc), ⟨by dsimp only; omega, O2⟩, by dsimp only; omega, ⟨rfl, rfl, rfl, rfl, rfl, rfl, rfl, trivial⟩, II⟩
  by_cases k5 : kd = 5
  · subst k5
    have hcr := ccrash_ok p q g (a, n, c) C _ O.I (by omega) keep hkk A hu fl hA (show n < 1000000 by omega) (by rw [O.f]; exact hnw)
    repeat (first | refine GD ?_ | refine NW fun _ => ?_)
    refine WL.step rfl (OP.call (pre := [crdA p q g _ C, dsk q C.D, A]) rfl rfl hcr PS rfl rfl ?_)
    rintro _ _ ⟨rfl, J', D', _, er, eh, _, I2, rfl⟩
    have O2 : OnceI (k + 1) f { C with J := J', D := D', R := rnd0, marked := 0 } rows told := O.keep (I2.mono (by omega)) rfl rfl er (.inl rfl) (by omega)
    have hD : D' = ({ C with J := J', D := D', R := rnd0, marked := 0 } : Crd).D := rfl
    rw [hD]
    generalize ({ C with J := J', D := D', R := rnd0, marked := 0 } : Crd) = C2 at *
    have hrl2 := O2.len
    have hrnum := O2.I.R.num
    have hmk2 := O2.I.marked
    have hlast2 := O2.I.last
    have hrow2 := O2.row
    have hjl2 := O2.I.J.len
    rw [O2.ring] at hjl2
    repeat (first | refine GD ?_ | refine NW fun _ => ?_)
    refine WL.step rfl (OP.callRO rfl rfl (crounds_ro p q g (a, n, c) C2) (Ent.at (up_crdA _ _ _ _ _) MM) rfl rfl ?_)
    by_cases hz : C2.R.number = 0
    · repeat (first | refine GD ?_ | refine NW fun _ => ?_)
      refine WC.loop (σ := Nat) (fun j => j ≤ rows.length)
        (fun j => [(0, .val (.slice a n c)), (1, .val (.slice (some ⟨b, off, none⟩) n1 c1)), (5, .val (.pointer (some ⟨p, 0, none⟩))), (7, .val (.slice ma rows.length mc)), (8, .val (.slice ta told.length tc)), (44, .val (.int .i64 n1)), (45, .val (.int .i64 k)), (157, .val (.int .i64 rows.length)), (158, .val (.int .i64 j))])
        (fun _ => [irowsA rows, ownS ma rows.length mc 23 1 (rows.map irowV), ownS ta told.length tc 63 3 (told.flatMap encCmd), crdA p q g (a, n, c) C2, dsk q C2.D, A]) (fun j => rows.length - j) 0 (Nat.zero_le _) ⟨rfl, rfl, rfl, rfl, rfl, rfl, rfl, rfl, rfl, trivial⟩ II ?_
      intro j hj
      by_cases hjl : j < rows.length
      · have hgt := gat_rt g C2.f C2.ch ((j : Int) + 1) O2.I.f4 O2.I.vols O2.I.few
        rw [show listM (atM ((j : Int) + 1) C2.f C2.ch) = (rows[j]).2.2 from (hrow2 j hjl).symm] at hgt
        have h4 : (rows[j]).2.2.length ≤ 4 := by
          rw [hrow2 j hjl]
          have := listM_len (atM ((j : Int) + 1) C2.f C2.ch)
          rw [atM_length, O2.I.f4] at this
          exact this
        refine WC.fact (Ent.some (Ent.own (a := ma) (n := rows.length) (cap := mc) (T := 23) (size := 1) (cs := rows.map irowV) MM) (by omega)) ?_
        rintro ⟨bM, oM, rfl⟩
        repeat (first | refine GD ?_ | refine NW fun _ => ?_)
        refine RD 11 11 (_) ?_
        refine WP 0 ?_
        refine WP 2 ?_
        refine WP 3 ?_
        refine WP 5 ?_
        refine WP 6 ?_
        refine WP 7 ?_
        refine VL 8 (irowV rows[j]) rfl rfl rfl rfl (.inl ⟨rfl, Ent.elem (i := j * 1) (Ent.own (T := 23) (n := rows.length) (cap := mc) MM) rfl (irowsV_get hjl)⟩) ?_
        refine WH.only 1 rfl rfl (by kernel_rfl) rfl (OP.callRO rfl rfl (cgroup_ro p q g (a, n, c) C2) (Ent.at (up_crdA _ _ _ _ _) MM) rfl rfl ⟨fun _ => II, ?_⟩)
        refine WH.only 4 rfl rfl (by kernel_rfl) rfl (OP.callRT rfl rfl hgt (crd_grp (C := C2) (p := p) (q := q) (fv := (a, n, c)) MM) rfl rfl (fun x3 E3 hE3 => ?_))
        obtain ⟨aO, cO, rfl, rfl⟩ := hE3
        refine ⟨fun _ => II, ?_⟩
        refine WH.only 9 rfl rfl (by kernel_rfl) rfl (OP.callRO rfl rfl (csame_ro aO (rows[j]).1 (rows[j]).2.2.length cO (rows[j]).2.2.length (rows[j]).2.1 (rows[j]).2.2 (rows[j]).2.2 rfl rfl (by omega)) (Ent.and (Ent.own (T := 3) (cap := cO) MM) (irowsA_get MM hjl)) rfl rfl ⟨fun _ => II, ?_⟩)
        rw [decide_eq_true (rfl : (rows[j]).2.2 = (rows[j]).2.2)]
        refine WP 10 ?_
        refine DN ?_
        repeat (first | refine GD ?_ | refine NW fun _ => ?_)
        exact ⟨j + 1, by omega, by omega, ⟨rfl, rfl, rfl, rfl, rfl, rfl, rfl, rfl, rfl, trivial⟩, II⟩
      have hje : j = rows.length := by omega
      subst hje
      repeat (first | refine GD ?_ | refine NW fun _ => ?_)
      exact ⟨(k + 1, C2, rows, ma, mc, told, ta, tc), ⟨by dsimp only; omega, O2⟩, by dsimp only; omega, ⟨rfl, rfl, rfl, rfl, rfl, rfl, rfl, trivial⟩, II⟩
    · have hz2 : C2.R.number = C2.last := hrnum.resolve_left hz
      repeat (first | refine GD ?_ | refine NW fun _ => ?_)
      refine WC.loop (σ := Nat) (fun j => j ≤ rows.length)
        (fun j => [(0, .val (.slice a n c)), (1, .val (.slice (some ⟨b, off, none⟩) n1 c1)), (5, .val (.pointer (some ⟨p, 0, none⟩))), (7, .val (.slice ma rows.length mc)), (8, .val (.slice ta told.length tc)), (44, .val (.int .i64 n1)), (45, .val (.int .i64 k)), (157, .val (.int .i64 rows.length)), (158, .val (.int .i64 j))])
        (fun _ => [irowsA rows, ownS ma rows.length mc 23 1 (rows.map irowV), ownS ta told.length tc 63 3 (told.flatMap encCmd), crdA p q g (a, n, c) C2, dsk q C2.D, A]) (fun j => rows.length - j) 0 (Nat.zero_le _) ⟨rfl, rfl, rfl, rfl, rfl, rfl, rfl, rfl, rfl, trivial⟩ II ?_
      intro j hj
      by_cases hjl : j < rows.length
      · have hgt := gat_rt g C2.f C2.ch ((j : Int) + 1) O2.I.f4 O2.I.vols O2.I.few
        rw [show listM (atM ((j : Int) + 1) C2.f C2.ch) = (rows[j]).2.2 from (hrow2 j hjl).symm] at hgt
        have h4 : (rows[j]).2.2.length ≤ 4 := by
          rw [hrow2 j hjl]
          have := listM_len (atM ((j : Int) + 1) C2.f C2.ch)
          rw [atM_length, O2.I.f4] at this
          exact this
        refine WC.fact (Ent.some (Ent.own (a := ma) (n := rows.length) (cap := mc) (T := 23) (size := 1) (cs := rows.map irowV) MM) (by omega)) ?_
        rintro ⟨bM, oM, rfl⟩
        repeat (first | refine GD ?_ | refine NW fun _ => ?_)
        refine RD 11 11 (_) ?_
        refine WP 0 ?_
        refine WP 2 ?_
        refine WP 3 ?_
        refine WP 5 ?_
        refine WP 6 ?_
        refine WP 7 ?_
        refine VL 8 (irowV rows[j]) rfl rfl rfl rfl (.inl ⟨rfl, Ent.elem (i := j * 1) (Ent.own (T := 23) (n := rows.length) (cap := mc) MM) rfl (irowsV_get hjl)⟩) ?_
        refine WH.only 1 rfl rfl (by kernel_rfl) rfl (OP.callRO rfl rfl (cgroup_ro p q g (a, n, c) C2) (Ent.at (up_crdA _ _ _ _ _) MM) rfl rfl ⟨fun _ => II, ?_⟩)
        refine WH.only 4 rfl rfl (by kernel_rfl) rfl (OP.callRT rfl rfl hgt (crd_grp (C := C2) (p := p) (q := q) (fv := (a, n, c)) MM) rfl rfl (fun x3 E3 hE3 => ?_))
        obtain ⟨aO, cO, rfl, rfl⟩ := hE3
        refine ⟨fun _ => II, ?_⟩
        refine WH.only 9 rfl rfl (by kernel_rfl) rfl (OP.callRO rfl rfl (csame_ro aO (rows[j]).1 (rows[j]).2.2.length cO (rows[j]).2.2.length (rows[j]).2.1 (rows[j]).2.2 (rows[j]).2.2 rfl rfl (by omega)) (Ent.and (Ent.own (T := 3) (cap := cO) MM) (irowsA_get MM hjl)) rfl rfl ⟨fun _ => II, ?_⟩)
        rw [decide_eq_true (rfl : (rows[j]).2.2 = (rows[j]).2.2)]
        refine WP 10 ?_
        refine DN ?_
        repeat (first | refine GD ?_ | refine NW fun _ => ?_)
        exact ⟨j + 1, by omega, by omega, ⟨rfl, rfl, rfl, rfl, rfl, rfl, rfl, rfl, rfl, trivial⟩, II⟩
      have hje : j = rows.length := by omega
      subst hje
      repeat (first | refine GD ?_ | refine NW fun _ => ?_)
      exact ⟨(k + 1, C2, rows, ma, mc, told, ta, tc), ⟨by dsimp only; omega, O2⟩, by dsimp only; omega, ⟨rfl, rfl, rfl, rfl, rfl, rfl, rfl, trivial⟩, II⟩
  have O2 : OnceI (k + 1) f C rows told := O.keep (O.I.mono (by omega)) rfl rfl rfl (.inl rfl) (by omega)
  have hrl2 := O2.len
  have hrnum := O2.I.R.num
  have hmk2 := O2.I.marked
  have hlast2 := O2.I.last
  have hrow2 := O2.row
  have hjl2 := O2.I.J.len
  rw [O2.ring] at hjl2
  repeat (first | refine GD ?_ | refine NW fun _ => ?_)
  refine WL.step rfl (OP.callRO rfl rfl (crounds_ro p q g (a, n, c) C) (Ent.at (up_crdA _ _ _ _ _) MM) rfl rfl ?_)
  by_cases hz : C.R.number = 0
  · repeat (first | refine GD ?_ | refine NW fun _ => ?_)
    refine WC.loop (σ := Nat) (fun j => j ≤ rows.length)
      (fun j => [(0, .val (.slice a n c)), (1, .val (.slice (some ⟨b, off, none⟩) n1 c1)), (5, .val (.pointer (some ⟨p, 0, none⟩))), (7, .val (.slice ma rows.length mc)), (8, .val (.slice ta told.length tc)), (44, .val (.int .i64 n1)), (45, .val (.int .i64 k)), (157, .val (.int .i64 rows.length)), (158, .val (.int .i64 j))])
      (fun _ => [irowsA rows, ownS ma rows.length mc 23 1 (rows.map irowV), ownS ta told.length tc 63 3 (told.flatMap encCmd), crdA p q g (a, n, c) C, dsk q C.D, A]) (fun j => rows.length - j) 0 (Nat.zero_le _) ⟨rfl, rfl, rfl, rfl, rfl, rfl, rfl, rfl, rfl, trivial⟩ II ?_
    intro j hj
    by_cases hjl : j < rows.length
    · have hgt := gat_rt g C.f C.ch ((j : Int) + 1) O2.I.f4 O2.I.vols O2.I.few
      rw [show listM (atM ((j : Int) + 1) C.f C.ch) = (rows[j]).2.2 from (hrow2 j hjl).symm] at hgt
      have h4 : (rows[j]).2.2.length ≤ 4 := by
        rw [hrow2 j hjl]
        have := listM_len (atM ((j : Int) + 1) C.f C.ch)
        rw [atM_length, O2.I.f4] at this
        exact this
      refine WC.fact (Ent.some (Ent.own (a := ma) (n := rows.length) (cap := mc) (T := 23) (size := 1) (cs := rows.map irowV) MM) (by omega)) ?_
      rintro ⟨bM, oM, rfl⟩
      repeat (first | refine GD ?_ | refine NW fun _ => ?_)
      refine RD 11 11 (_) ?_
      refine WP 0 ?_
      refine WP 2 ?_
      refine WP 3 ?_
      refine WP 5 ?_
      refine WP 6 ?_
      refine WP 7 ?_
      refine VL 8 (irowV rows[j]) rfl rfl rfl rfl (.inl ⟨rfl, Ent.elem (i := j * 1) (Ent.own (T := 23) (n := rows.length) (cap := mc) MM) rfl (irowsV_get hjl)⟩) ?_
      refine WH.only 1 rfl rfl (by kernel_rfl) rfl (OP.callRO rfl rfl (cgroup_ro p q g (a, n, c) C) (Ent.at (up_crdA _ _ _ _ _) MM) rfl rfl ⟨fun _ => II, ?_⟩)
      refine WH.only 4 rfl rfl (by kernel_rfl) rfl (OP.callRT rfl rfl hgt (crd_grp (C := C) (p := p) (q := q) (fv := (a, n, c)) MM) rfl rfl (fun x3 E3 hE3 => ?_))
      obtain ⟨aO, cO, rfl, rfl⟩ := hE3
      refine ⟨fun _ => II, ?_⟩
      refine WH.only 9 rfl rfl (by kernel_rfl) rfl (OP.callRO rfl rfl (csame_ro aO (rows[j]).1 (rows[j]).2.2.length cO (rows[j]).2.2.length (rows[j]).2.1 (rows[j]).2.2 (rows[j]).2.2 rfl rfl (by omega)) (Ent.and (Ent.own (T := 3) (cap := cO) MM) (irowsA_get MM hjl)) rfl rfl ⟨fun _ => II, ?_⟩)
      rw [decide_eq_true (rfl : (rows[j]).2.2 = (rows[j]).2.2)]
      refine WP 10 ?_
      refine DN ?_
      repeat (first | refine GD ?_ | refine NW fun _ => ?_)
      exact ⟨j + 1, by omega, by omega, ⟨rfl, rfl, rfl, rfl, rfl, rfl, rfl, rfl, rfl, trivial⟩, II⟩
    have hje : j = rows.length := by omega
    subst hje
    repeat (first | refine GD ?_ | refine NW fun _ => ?_)
    exact ⟨(k + 1, C, rows, ma, mc, told, ta, tc), ⟨by dsimp only; omega, O2⟩, by dsimp only; omega, ⟨rfl, rfl, rfl, rfl, rfl, rfl, rfl, trivial⟩, II⟩
  · have hz2 : C.R.number = C.last := hrnum.resolve_left hz
    repeat (first | refine GD ?_ | refine NW fun _ => ?_)
    refine WC.loop (σ := Nat) (fun j => j ≤ rows.length)
      (fun j => [(0, .val (.slice a n c)), (1, .val (.slice (some ⟨b, off, none⟩) n1 c1)), (5, .val (.pointer (some ⟨p, 0, none⟩))), (7, .val (.slice ma rows.length mc)), (8, .val (.slice ta told.length tc)), (44, .val (.int .i64 n1)), (45, .val (.int .i64 k)), (157, .val (.int .i64 rows.length)), (158, .val (.int .i64 j))])
      (fun _ => [irowsA rows, ownS ma rows.length mc 23 1 (rows.map irowV), ownS ta told.length tc 63 3 (told.flatMap encCmd), crdA p q g (a, n, c) C, dsk q C.D, A]) (fun j => rows.length - j) 0 (Nat.zero_le _) ⟨rfl, rfl, rfl, rfl, rfl, rfl, rfl, rfl, rfl, trivial⟩ II ?_
    intro j hj
    by_cases hjl : j < rows.length
    · have hgt := gat_rt g C.f C.ch ((j : Int) + 1) O2.I.f4 O2.I.vols O2.I.few
      rw [show listM (atM ((j : Int) + 1) C.f C.ch) = (rows[j]).2.2 from (hrow2 j hjl).symm] at hgt
      have h4 : (rows[j]).2.2.length ≤ 4 := by
        rw [hrow2 j hjl]
        have := listM_len (atM ((j : Int) + 1) C.f C.ch)
        rw [atM_length, O2.I.f4] at this
        exact this
      refine WC.fact (Ent.some (Ent.own (a := ma) (n := rows.length) (cap := mc) (T := 23) (size := 1) (cs := rows.map irowV) MM) (by omega)) ?_
      rintro ⟨bM, oM, rfl⟩
      repeat (first | refine GD ?_ | refine NW fun _ => ?_)
      refine RD 11 11 (_) ?_
      refine WP 0 ?_
      refine WP 2 ?_
      refine WP 3 ?_
      refine WP 5 ?_
      refine WP 6 ?_
      refine WP 7 ?_
      refine VL 8 (irowV rows[j]) rfl rfl rfl rfl (.inl ⟨rfl, Ent.elem (i := j * 1) (Ent.own (T := 23) (n := rows.length) (cap := mc) MM) rfl (irowsV_get hjl)⟩) ?_
      refine WH.only 1 rfl rfl (by kernel_rfl) rfl (OP.callRO rfl rfl (cgroup_ro p q g (a, n, c) C) (Ent.at (up_crdA _ _ _ _ _) MM) rfl rfl ⟨fun _ => II, ?_⟩)
      refine WH.only 4 rfl rfl (by kernel_rfl) rfl (OP.callRT rfl rfl hgt (crd_grp (C := C) (p := p) (q := q) (fv := (a, n, c)) MM) rfl rfl (fun x3 E3 hE3 => ?_))
      obtain ⟨aO, cO, rfl, rfl⟩ := hE3
      refine ⟨fun _ => II, ?_⟩
      refine WH.only 9 rfl rfl (by kernel_rfl) rfl (OP.callRO rfl rfl (csame_ro aO (rows[j]).1 (rows[j]).2.2.length cO (rows[j]).2.2.length (rows[j]).2.1 (rows[j]).2.2 (rows[j]).2.2 rfl rfl (by omega)) (Ent.and (Ent.own (T := 3) (cap := cO) MM) (irowsA_get MM hjl)) rfl rfl ⟨fun _ => II, ?_⟩)
      rw [decide_eq_true (rfl : (rows[j]).2.2 = (rows[j]).2.2)]
      refine WP 10 ?_
      refine DN ?_
      repeat (first | refine GD ?_ | refine NW fun _ => ?_)
      exact ⟨j + 1, by omega, by omega, ⟨rfl, rfl, rfl, rfl, rfl, rfl, rfl, rfl, rfl, trivial⟩, II⟩
    have hje : j = rows.length := by omega
    subst hje
    repeat (first | refine GD ?_ | refine NW fun _ => ?_)
    exact ⟨(k + 1, C, rows, ma, mc, told, ta, tc), ⟨by dsimp only; omega, O2⟩, by dsimp only; omega, ⟨rfl, rfl, rfl, rfl, rfl, rfl, rfl, trivial⟩, II⟩
end Go.Proofs.Ytacgheafbkfciaa
