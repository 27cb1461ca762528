/- Contracts of functions of the given program, and plain laws: parts of the proofs of laws. -/
import Derived.Test.YtleajkobmhhacaaGreatDoorZPQ4
import Derived.Test.YtleajkobmhhacaaGreatDoorZPQ14
import Derived.Test.YtleajkobmhhacaaGreatDoorZPQ13
/- Contracts of functions of the given program, and plain laws on what they compute: parts of the proofs of laws. -/

namespace Go.Proofs.YtleajkobmhhacaaGreatDoor
open Go Go.GL

/-! PrimaryWaits -/
/-- a primary that is frozen for round 1, while so many writes wait -/
structure WaitP (P : Pri) (l : List ByteArray) (k : Nat) (left : Int) : Prop where
  I : PInv P (7 + 2 * k)
  G : P.G = ⟨1, left, 1, waitsW l (min k 4)⟩
  S : P.S = ⟨0, 1, 10⟩
  ring : P.V.J.ring = 16
  held : P.V.J.held = []
  next : P.V.J.next = 1
theorem eqDn (a b : Dn) : (if a = b then true else false) = decide (a = b) := by split <;> simp_all
set_option maxHeartbeats 16000000 in
set_option maxRecDepth 10000 in
theorem pwaits_ro (a : Option Addr) (n c : Nat) (l : List ByteArray) (ticks : Bool) (hn : n = l.length) :
    RO G 5 [.slice a n c, .bool ticks] (fun h => ErrT h ∧ readS a n 1 (l.map Value.string) h) (.bool true) := by
  refine RO.enter Tryz.func5 rfl (by decide) rfl Tryz.ntmps5 rfl (fun A hu hA => ?_) (up_and up_ErrT (up_readS _ _ _ _))
  have hAE : ∀ k, A k → ErrT k := fun k h => (hA k h).1
  have hT : ∀ {L}, A ∈ L → Ent L ErrT := fun m => Ent.mem m hu hAE
  have hR : ∀ {L}, A ∈ L → Ent L (readS a n 1 (l.map Value.string)) := fun m => Ent.mem m hu fun k h => (hA k h).2
  have hce : ∀ {L} {ch : Chain} {cd : Int}, chainR ch cd ∈ L → A ∈ L → Ent L (chainE ch cd) := fun m1 m2 => Ent.and (hT m2) (Ent.mem m1 (up_chainR _ _) (fun _ x => x))
  have hw := widest_eq
  have hb60 := big60_eq
  repeat (first | refine GD ?_ | refine NW fun _ => ?_)
  refine WL.step rfl (OP.callRO rfl rfl pawake_ro (fun _ _ => trivial) rfl rfl ?_)
  by_cases h8 : 8 < n
  · repeat (first | refine GD ?_ | refine NW fun _ => ?_)
    refine WL.step rfl (OP.callRO rfl rfl pawake_ro (fun _ _ => trivial) rfl rfl ?_)
    repeat (first | refine GD ?_ | refine NW fun _ => ?_)
    exact ret1 rfl ⟨rfl, MM⟩
  obtain ⟨V, D, hopn, I0, hring, hheld, hnext, hblks, hlen, hW, _⟩ := PInv.fresh (ring := 16) (by decide) (by decide)
  have ho' : openV (Dsk.new 27) (16 : Nat) = .ok (V, D) := hopn
  have hpo := fun q => popen_ok q 16 (Dsk.new 27) (Dsk.new_ok 27) (by decide) (by decide) (by decide) ho' I0 (by omega) hring
  have g1 := fun p q => pgrant_ok p q (beginP V D 0) 1 0 I0.st
  have hg : grantP (beginP V D 0) 1 0 = (none, { beginP V D 0 with S := ⟨0, 1, 10⟩ }) := by
    unfold grantP
    rw [show (beginP V D 0).S = st0 from rfl, grantS_st0 (by decide)]
  have I1a := (I0.grant 1 0).1
  rw [hg] at I1a g1
  have I1 : PInv { beginP V D 0 with S := ⟨0, 1, 10⟩ } 3 := I1a
  clear I1a
  have f1 := fun p q => pfreeze_ok p q _ _ I1 1
  obtain ⟨P3, hf, H3⟩ : ∃ P3, freezeP { beginP V D 0 with S := ⟨0, 1, 10⟩ } 1 = (none, P3) ∧ WaitP P3 l 0 6 := by
    obtain ⟨I3, hV3, hS3, _, _, h3⟩ := I1.freeze 1
    rcases h3 with h | ⟨⟨e, h, _⟩, _⟩
    · refine ⟨_, by rw [← h.1], I3.mono (by omega), h.2.2.2.2.2, hS3, ?_, ?_, ?_⟩
      · rw [hV3]; exact hring
      · rw [hV3]; exact hheld
      · rw [hV3]; exact hnext
    · unfold freezeP freezeG at h
      rw [if_neg (by omega), if_neg (by omega), if_neg (by show ¬ ((1 : Int) ≠ 0 ∧ (1 : Int) ≤ 0); omega)] at h
      cases h
  unfold ErPost at f1
  rw [hf] at f1
  have hD1 : ({ beginP V D 0 with S := ⟨0, 1, 10⟩ } : Pri).D = D := rfl
  have hD0 : (beginP V D 0).D = D := rfl
  generalize ({ beginP V D 0 with S := ⟨0, 1, 10⟩ } : Pri) = Pg at *
  generalize beginP V D 0 = P0 at *
  rw [hD1] at f1
  repeat (first | refine GD ?_ | refine NW fun _ => ?_)
  refine WL.step rfl (OP.callRO rfl rfl (psectors_ro 16 (by decide)) (fun _ _ => trivial) rfl rfl ?_)
  refine WL.step rfl (OP.callRT rfl rfl (dnew_rt 27) (fun _ _ => trivial) rfl rfl ?_)
  rintro _ _ ⟨q, rfl, rfl⟩
  refine WL.step rfl (OP.call (pre := [dsk q (Dsk.new 27)]) rfl rfl (hpo q) PS rfl rfl ?_)
  rintro _ _ ⟨p, rfl, rfl⟩
  repeat (first | refine GD ?_ | refine NW fun _ => ?_)
  refine WL.guardT rfl rfl rfl rfl (OP.call (pre := [priA p q P0]) rfl rfl (g1 p q) PS rfl rfl ?_)
  rintro _ _ ⟨_, ⟨rfl, rfl⟩, rfl⟩
  dsimp only [List.cons_append, List.nil_append]
  repeat (first | refine GD ?_ | refine NW fun _ => ?_)
  refine WL.guardT rfl rfl rfl rfl (OP.call (pre := [priA p q Pg, dsk q D]) rfl rfl (f1 p q) PS rfl rfl ?_)
  rintro _ _ ⟨_, ⟨rfl, rfl⟩, rfl⟩
  dsimp only [List.cons_append, List.nil_append]
  repeat (first | refine GD ?_ | refine NW fun _ => ?_)
  clear g1 f1 hpo I0 I1 hg hf
  refine WC.loop (σ := Nat × Pri) (fun s => s.1 ≤ n ∧ WaitP s.2 l s.1 6 ∧ ∀ i, i < s.1 → (l.getD i ⟨#[]⟩).size ≤ 16)
    (fun s => [(0, .val (.slice a n c)), (1, .val (.bool ticks)), (5, .val (.pointer (some ⟨p, 0, none⟩))), (45, .val (.int .i64 n)), (46, .val (.int .i64 s.1))])
    (fun s => [priA p q s.2, dsk q s.2.D, A]) (fun s => n - s.1) (0, P3) ⟨Nat.zero_le _, H3, fun i h => absurd h (Nat.not_lt_zero i)⟩ ⟨rfl, rfl, rfl, rfl, rfl, trivial⟩ II ?_
  clear H3 hD0 hD1
  clear P3 Pg P0
  rintro ⟨k, P⟩ ⟨hk, H, hsz⟩
  dsimp only at hk H hsz ⊢
  by_cases hlt : k < n
  · have hlk : k < l.length := by omega
    have hgd : l.getD k ⟨#[]⟩ = l[k] := by rw [List.getD_eq_getElem?_getD, List.getElem?_eq_getElem hlk]; rfl
    refine WC.fact (Ent.some (hR MM) (by omega)) ?_
    rintro ⟨b, off, rfl⟩
    repeat (first | refine GD ?_ | refine NW fun _ => ?_)
    refine WL.step rfl (OP.load1 (v := .string l[k]) rfl rfl rfl rfl (Ent.elem (hR MM) (i := k * 1) rfl (by rw [Nat.mul_one, List.getElem?_map, List.getElem?_eq_getElem hlk]; rfl)) rfl rfl ?_)
    by_cases h16 : (16 : Int) < l[k].size
    · repeat (first | refine GD ?_ | refine NW fun _ => ?_)
      exact ret1 rfl ⟨rfl, MM⟩
    have hsz' : ∀ i, i < k + 1 → (l.getD i ⟨#[]⟩).size ≤ 16 := fun i hi => by
      by_cases e : i = k
      · subst e; rw [hgd]; omega
      · exact hsz i (by omega)
    have hkm : (k : Int) % 8 = k := by omega
    have hck : checkS P.S 1 0 = none := checkS_none (by rw [H.S]; decide) (by rw [H.S]) (by rw [H.S]; show ¬ (10 : Int) ≤ max 0 (min 0 big60); omega)
    have hrc : RightC ((k : Int), (k : Int), l[k]) := ⟨⟨Int.natCast_nonneg k, by show (k : Int) < 8; omega⟩, by show l[k].size ≤ 16; omega⟩
    have hww := PInv.writeWait hck hrc (by rw [H.G]; show (1 : Int) ≠ 0; decide)
    have hPat : P.at_ 0 = P := by
      unfold Pri.at_
      rw [H.S]
      have : St.at_ ⟨0, 1, 10⟩ 0 = P.S := by rw [H.S]; rfl
      rw [this]
    rw [hPat] at hww
    have hwl : P.G.wait.length = min k 4 := by rw [H.G]; exact waitsW_len l _
    have wr := pwrite_ok p q P _ H.I (by omega) ((k : Int), (k : Int), l[k]) (by show l[k].size < 1000000; omega) 1 0
    have Iw := (H.I.write (by omega) ((k : Int), (k : Int), l[k]) 1 0).1
    rw [show encCa ((k : Int), (k : Int), l[k]) = [.int .i64 k, .int .i64 k, .string l[k]] from rfl] at wr
    repeat (first | refine GD ?_ | refine NW fun _ => ?_)
    refine WL.step rfl (OP.load1 (v := .string l[k]) rfl rfl rfl rfl (Ent.elem (hR MM) (i := k * 1) rfl (by rw [Nat.mul_one, List.getElem?_map, List.getElem?_eq_getElem hlk]; rfl)) rfl rfl ?_)
    rw [hkm]
    repeat (first | refine GD ?_ | refine NW fun _ => ?_)
    by_cases h4 : k < 4
    · have hm : min k 4 = k := by omega
      rw [if_neg (by omega)] at hww
      rw [hww] at wr
      refine WL.step rfl (OP.call (pre := [priA p q P, dsk q P.D]) rfl rfl wr PS rfl rfl ?_)
      rintro _ _ ⟨rfl, rfl⟩
      dsimp only [List.cons_append, List.nil_append]
      rw [hww] at Iw
      repeat (first | refine GD ?_ | refine NW fun _ => ?_)
      refine ⟨(k + 1, _), ⟨hlt, ⟨Iw.mono (by dsimp only; omega), ?_, ?_, H.ring, H.held, H.next⟩, hsz'⟩, by dsimp only; omega, ⟨rfl, rfl, rfl, rfl, rfl, trivial⟩, II⟩
      · show ({ P.G with wait := P.G.wait ++ [((k : Int), (k : Int), l[k])] } : Gt) = ⟨1, 6, 1, waitsW l (min (k + 1) 4)⟩
        rw [H.G, show min (k + 1) 4 = k + 1 by omega, hm, waitsW_succ]
        unfold callW
        rw [hgd]
      · exact H.S
    · have hm : min k 4 = 4 := by omega
      rw [if_pos (by omega)] at hww
      rw [hww] at wr Iw
      refine WL.step rfl (OP.call (pre := [priA p q P, dsk q P.D]) rfl rfl wr PS rfl rfl ?_)
      rintro _ _ ⟨e, E, hE, rfl, rfl⟩
      obtain ⟨y, ch, hc1, rfl, rfl⟩ := isEr_hd hE (by simp)
      have hcc := codeC (y :: ch) 7
      dsimp only [valOf, List.cons_append, List.nil_append] at hcc ⊢
      repeat (first | refine GD ?_ | refine NW fun _ => ?_)
      refine WL.guardT rfl rfl rfl rfl (OP.callRO rfl rfl hcc (hce MM MM) rfl rfl ?_)
      repeat (first | refine GD ?_ | refine NW fun _ => ?_)
      refine ⟨(k + 1, P), ⟨hlt, ⟨Iw.mono (by dsimp only; omega), ?_, H.S, H.ring, H.held, H.next⟩, hsz'⟩, by dsimp only; omega, ⟨rfl, rfl, rfl, rfl, rfl, trivial⟩, II⟩
      show P.G = ⟨1, 6, 1, waitsW l (min (k + 1) 4)⟩
      rw [H.G, show min (k + 1) 4 = 4 by omega, hm]
  have hkn : k = n := by omega
  subst hkn
  obtain ⟨m, hm⟩ : ∃ m, m = min k 4 := ⟨_, rfl⟩
  have hmk : m ≤ k ∧ m ≤ 4 := by omega
  have hmm : (min k 4 : Int) = m := by omega
  have hmf : (if (4 : Int) < (k : Int) then 4 else (k : Int)) = m := by split <;> omega
  have hwm : P.G.wait = waitsW l m := by rw [H.G, hm]
  have hopn : P.G.opened = ⟨0, 0, 1, []⟩ := by rw [H.G]; rfl
  have hszm : ∀ i, i < m → (l.getD i ⟨#[]⟩).size ≤ 16 := fun i hi => hsz i (by omega)
  have hSm : P.S.epoch = 1 ∧ P.S.til = 10 ∧ P.S.now ≤ 5 := by rw [H.S]; decide
  have hWR : ∀ (Pz : Pri) (now : Int), PInv Pz (7 + 2 * k) → Pz.V = P.V → Pz.S = P.S → now ≤ 5 → WaitR Pz (7 + 2 * k) l m (letP Pz now (waitsW l m)) := fun Pz now Iz hV hS hnow =>
    waitsAll Iz (by omega) (by rw [hV]; exact H.ring) (by rw [hV]; exact H.held) (by rw [hV]; exact H.next) (by rw [hS]; exact hSm) hmk.2 hszm hnow
  cases ticks with
  | true =>
    repeat (first | refine GD ?_ | refine NW fun _ => ?_)
    refine WC.imp (Imp.nilS dnT 3) ?_
    refine WC.loop (σ := Nat × Pri × List Dn × Option Addr × Nat) (fun s => s.1 ≤ 6 ∧ (s.1 < 6 → s.2.2.1 = [] ∧ PInv s.2.1 (7 + 2 * k) ∧ s.2.1 = { P with G := ⟨1, 6 - s.1, 1, waitsW l m⟩ }) ∧ (s.1 = 6 → ∃ Pz : Pri, Pz.G = ⟨0, 0, 1, []⟩ ∧ WaitR Pz (7 + 2 * k) l m (s.2.2.1, s.2.1)))
      (fun s => [(0, .val (.slice a k c)), (5, .val (.pointer (some ⟨p, 0, none⟩))), (10, .val (.slice s.2.2.2.1 s.2.2.1.length s.2.2.2.2)), (88, .val (.int .i64 s.1))])
      (fun s => [ownS s.2.2.2.1 s.2.2.1.length s.2.2.2.2 dnT 3 (s.2.2.1.flatMap encDn), priA p q s.2.1, dsk q s.2.1.D, A]) (fun s => 6 - s.1) (0, P, [], none, 0) ⟨Nat.zero_le _, fun _ => ⟨rfl, H.I, by show P = { P with G := ⟨1, 6 - ((0 : Nat) : Int), 1, waitsW l m⟩ }; rw [show (6 : Int) - ((0 : Nat) : Int) = 6 from rfl, hm, ← H.G]⟩, fun h => absurd (show (0 : Nat) = 6 from h) (by decide)⟩ ⟨rfl, rfl, rfl, rfl, trivial⟩ II ?_
    rintro ⟨j, Pj, ds, oa, oc⟩ ⟨hj, hj1, hj2⟩
    dsimp only at hj hj1 hj2 ⊢
    by_cases hj6 : j < 6
    rotate_left
    · obtain ⟨Pz, hPz, W⟩ := hj2 (by omega)
      have hj6' : j = 6 := by omega
      subst hj6'
      generalize Pj = PF at *
      obtain ⟨hout, IF, _, _, _, _, _, _, hGF, hbF⟩ := W
      dsimp only at hout IF hGF hbF
      subst hout
      rw [donesW_len]
      have hVF := IF.rng (by omega)
      have hlen8 := IF.V.b8
      have hroF := pfrozen_ro p q PF
      rw [hGF, hPz] at hroF
      repeat (first | refine GD ?_ | refine NW fun _ => ?_)
      refine WC.loop (σ := Nat) (fun j => j ≤ m) (fun j => [(0, .val (.slice a k c)), (5, .val (.pointer (some ⟨p, 0, none⟩))), (10, .val (.slice oa m oc)), (115, .val (.int .i64 m)), (116, .val (.int .i64 j))])
        (fun _ => [ownS oa m oc dnT 3 ((donesW m).flatMap encDn), priA p q PF, dsk q PF.D, A]) (fun j => m - j) 0 (Nat.zero_le _) ⟨rfl, rfl, rfl, rfl, rfl, trivial⟩ II ?_
      intro j hj
      by_cases hjm : j < m
      rotate_left
      · repeat (first | refine GD ?_ | refine NW fun _ => ?_)
        refine WL.step rfl (OP.callRO rfl rfl hroF (Ent.at (up_priA _ _ _) MM) rfl rfl ?_)
        repeat (first | refine GD ?_ | refine NW fun _ => ?_)
        exact ret1 rfl ⟨rfl, MM⟩
      have hjk : j < l.length := by omega
      have hgd : l.getD j ⟨#[]⟩ = l[j] := by rw [List.getD_eq_getElem?_getD, List.getElem?_eq_getElem hjk]; rfl
      have hrd := pread_rt p q PF j hVF
      have hrv : readV PF.V j = .ok l[j] := by
        unfold readV
        rw [if_neg (fun h => h ⟨by omega, by omega⟩), Int.toNat_natCast, hbF j hjm, hgd]
      have hld : (donesW m).length = m := donesW_len m
      have hdg : (donesW m)[j]'(by omega) = doneW j := donesW_get (by omega)
      refine WC.fact (Ent.some (Ent.own (a := oa) (n := m) (cap := oc) (T := dnT) (size := 3) (cs := (donesW m).flatMap encDn) MM) (by omega)) ?_
      rintro ⟨ob, ooff, rfl⟩
      refine WC.fact (Ent.some (hR MM) (by omega)) ?_
      rintro ⟨b, off, rfl⟩
      repeat (first | refine GD ?_ | refine NW fun _ => ?_)
      refine WL.step rfl (OP.callRT rfl rfl hrd (Ent.at (up_priA _ _ _) MM) rfl rfl ?_)
      intro w E hE
      unfold PReadPost at hE
      rw [hrv] at hE
      obtain ⟨rfl, rfl⟩ := hE
      repeat (first | refine GD ?_ | refine NW fun _ => ?_)
      refine WL.step rfl (OP.loadA (l := encDn (doneW j)) rfl rfl rfl rfl (by rw [← hdg]; exact Ent.elA (f := encDn) encDn_len (Ent.own (T := dnT) MM) (by omega)) rfl rfl rfl ?_)
      rw [show encDn (doneW j) = [.int .i64 j, .int .i64 ((j : Int) + 1), .int .i64 0] from rfl]
      repeat (first | refine GD ?_ | refine NW fun _ => ?_)
      refine WL.step rfl (OP.eqAgg (EqAgg.neqSelf (xs := [.int .i64 j, .int .i64 ((j : Int) + 1), .int .i64 0]) rfl rfl rfl rfl (by kernel_rfl) (by kernel_rfl) (by kernel_rfl) rfl) rfl rfl ?_)
      repeat (first | refine GD ?_ | refine NW fun _ => ?_)
      refine WL.guardT rfl rfl rfl rfl (OP.load1 (v := .string l[j]) rfl rfl rfl rfl (Ent.elem (hR MM) (i := j * 1) rfl (by rw [Nat.mul_one, List.getElem?_map, List.getElem?_eq_getElem hjk]; rfl)) rfl rfl ?_)
      generalize l[j] = lj at *
      repeat (first | refine GD ?_ | refine NW fun _ => ?_)
      rw [decide_eq_true (rfl : lj = lj)]
      repeat (first | refine GD ?_ | refine NW fun _ => ?_)
      exact ⟨j + 1, hjm, by omega, ⟨rfl, rfl, rfl, rfl, rfl, trivial⟩, II⟩
    obtain ⟨rfl, Ij, hPj⟩ := hj1 hj6
    have tk := ptick_ok p q Pj _ Ij (by omega) j A hu hAE
    by_cases hj5 : j < 5
    · have hb' : (0 : Int) < 6 - (j : Int) - 1 := by omega
      have htk : tickP Pj j = ([], { P with G := ⟨1, 6 - ((j + 1 : Nat) : Int), 1, waitsW l m⟩ }) := by
        unfold tickP tickG
        rw [hPj, if_neg (show ¬ (1 : Int) = 0 by decide), if_pos hb']
        show ([], { P with G := ⟨1, 6 - (j : Int) - 1, 1, waitsW l m⟩ }) = _
        rw [show 6 - (j : Int) - 1 = 6 - ((j + 1 : Nat) : Int) by omega]
      have I2 : PInv { P with G := ⟨1, 6 - ((j + 1 : Nat) : Int), 1, waitsW l m⟩ } (7 + 2 * k) := by
        have hI := H.I
        have hG := H.G
        refine { hI with lat := ?_, rnd := ?_, left := ?_, few := ?_, wr := ?_, opn := ?_ }
        · have := hI.lat; rw [hG] at this; exact this
        · have := hI.rnd; rw [hG] at this; exact this
        · show 0 ≤ 6 - ((j + 1 : Nat) : Int) ∧ 6 - ((j + 1 : Nat) : Int) ≤ 6; omega
        · show (waitsW l m).length ≤ 4; rw [waitsW_len]; omega
        · have := hI.wr; rw [hwm] at this; exact this
        · exact fun h => absurd h (show (1 : Int) ≠ 0 by decide)
      rw [htk] at tk
      repeat (first | refine GD ?_ | refine NW fun _ => ?_)
      refine WL.step rfl (OP.call (pre := [priA p q Pj, dsk q Pj.D, A]) rfl rfl tk PS rfl rfl ?_)
      rintro _ _ ⟨_, ⟨ob, oc2, rfl, rfl⟩, rfl⟩
      dsimp only [List.cons_append, List.nil_append]
      repeat (first | refine GD ?_ | refine NW fun _ => ?_)
      exact ⟨(j + 1, _, [], ob, oc2), ⟨by dsimp only; omega, fun _ => ⟨rfl, I2, rfl⟩, fun h => by dsimp only at h; omega⟩, by dsimp only; omega, ⟨rfl, rfl, rfl, rfl, trivial⟩, II⟩
    · have hj5' : j = 5 := by omega
      subst hj5'
      have htk : tickP Pj (5 : Nat) = letP { P with G := ⟨0, 0, 1, []⟩ } 5 (waitsW l m) := by
        unfold tickP tickG
        rw [hPj, if_neg (show ¬ (1 : Int) = 0 by decide), if_neg (show ¬ (0 : Int) < 6 - ((5 : Nat) : Int) - 1 by decide)]
        rfl
      have W := hWR { P with G := ⟨0, 0, 1, []⟩ } 5 (hopn ▸ H.I.opened) rfl rfl (by decide)
      have hPz : ({ P with G := ⟨0, 0, 1, []⟩ } : Pri).G = ⟨0, 0, 1, []⟩ := rfl
      rw [htk] at tk
      generalize ({ P with G := ⟨0, 0, 1, []⟩ } : Pri) = Pz at *
      generalize letP Pz 5 (waitsW l m) = sF at *
      obtain ⟨ds, PF⟩ := sF
      repeat (first | refine GD ?_ | refine NW fun _ => ?_)
      refine WL.step rfl (OP.call (pre := [priA p q Pj, dsk q Pj.D, A]) rfl rfl tk PS rfl rfl ?_)
      rintro _ _ ⟨_, ⟨ob, oc2, rfl, rfl⟩, rfl⟩
      dsimp only [List.cons_append, List.nil_append]
      repeat (first | refine GD ?_ | refine NW fun _ => ?_)
      exact ⟨(6, PF, ds, ob, oc2), ⟨Nat.le_refl _, fun h => absurd (show (6 : Nat) < 6 from h) (by decide), fun _ => ⟨Pz, hPz, W⟩⟩, by dsimp only; omega, ⟨rfl, rfl, rfl, rfl, trivial⟩, II⟩
  | false =>
    have hth : thawP P 1 0 = ((letP { P with G := ⟨0, 0, 1, []⟩ } 0 (waitsW l m)).1, none, (letP { P with G := ⟨0, 0, 1, []⟩ } 0 (waitsW l m)).2) := by
      unfold thawP thawG
      rw [if_neg (by rw [H.G]; show ¬ ((1 : Int) = 0 ∨ (1 : Int) ≠ 1); omega)]
      dsimp only
      rw [hopn, hwm]
    have W := hWR { P with G := ⟨0, 0, 1, []⟩ } 0 (hopn ▸ H.I.opened) rfl rfl (by decide)
    have t1 := pthaw_ok p q P _ H.I (by omega) 1 0 A hu hAE
    rw [hth] at t1
    have hPz : ({ P with G := ⟨0, 0, 1, []⟩ } : Pri).G = ⟨0, 0, 1, []⟩ := rfl
    generalize ({ P with G := ⟨0, 0, 1, []⟩ } : Pri) = Pz at *
    generalize letP Pz 0 (waitsW l m) = sF at *
    obtain ⟨ds, PF⟩ := sF
    repeat (first | refine GD ?_ | refine NW fun _ => ?_)
    refine WL.step rfl (OP.call (pre := [priA p q P, dsk q P.D, A]) rfl rfl t1 PS rfl rfl ?_)
    rintro _ _ ⟨_, _, _, _, ⟨oa, oc, rfl, rfl⟩, ⟨rfl, rfl⟩, rfl, rfl⟩
    dsimp only [List.cons_append, List.nil_append]
    obtain ⟨hout, IF, _, _, _, _, _, _, hGF, hbF⟩ := W
    dsimp only at hout IF hGF hbF
    subst hout
    rw [donesW_len]
    have hVF := IF.rng (by omega)
    have hlen8 := IF.V.b8
    have hroF := pfrozen_ro p q PF
    rw [hGF, hPz] at hroF
    repeat (first | refine GD ?_ | refine NW fun _ => ?_)
    refine WC.loop (σ := Nat) (fun j => j ≤ m) (fun j => [(0, .val (.slice a k c)), (5, .val (.pointer (some ⟨p, 0, none⟩))), (10, .val (.slice oa m oc)), (115, .val (.int .i64 m)), (116, .val (.int .i64 j))])
      (fun _ => [ownS oa m oc dnT 3 ((donesW m).flatMap encDn), priA p q PF, dsk q PF.D, A]) (fun j => m - j) 0 (Nat.zero_le _) ⟨rfl, rfl, rfl, rfl, rfl, trivial⟩ II ?_
    intro j hj
    by_cases hjm : j < m
    rotate_left
    · repeat (first | refine GD ?_ | refine NW fun _ => ?_)
      refine WL.step rfl (OP.callRO rfl rfl hroF (Ent.at (up_priA _ _ _) MM) rfl rfl ?_)
      repeat (first | refine GD ?_ | refine NW fun _ => ?_)
      exact ret1 rfl ⟨rfl, MM⟩
    have hjk : j < l.length := by omega
    have hgd : l.getD j ⟨#[]⟩ = l[j] := by rw [List.getD_eq_getElem?_getD, List.getElem?_eq_getElem hjk]; rfl
    have hrd := pread_rt p q PF j hVF
    have hrv : readV PF.V j = .ok l[j] := by
      unfold readV
      rw [if_neg (fun h => h ⟨by omega, by omega⟩), Int.toNat_natCast, hbF j hjm, hgd]
    have hld : (donesW m).length = m := donesW_len m
    have hdg : (donesW m)[j]'(by omega) = doneW j := donesW_get (by omega)
    refine WC.fact (Ent.some (Ent.own (a := oa) (n := m) (cap := oc) (T := dnT) (size := 3) (cs := (donesW m).flatMap encDn) MM) (by omega)) ?_
    rintro ⟨ob, ooff, rfl⟩
    refine WC.fact (Ent.some (hR MM) (by omega)) ?_
    rintro ⟨b, off, rfl⟩
    repeat (first | refine GD ?_ | refine NW fun _ => ?_)
    refine WL.step rfl (OP.callRT rfl rfl hrd (Ent.at (up_priA _ _ _) MM) rfl rfl ?_)
    intro w E hE
    unfold PReadPost at hE
    rw [hrv] at hE
    obtain ⟨rfl, rfl⟩ := hE
    repeat (first | refine GD ?_ | refine NW fun _ => ?_)
    refine WL.step rfl (OP.loadA (l := encDn (doneW j)) rfl rfl rfl rfl (by rw [← hdg]; exact Ent.elA (f := encDn) encDn_len (Ent.own (T := dnT) MM) (by omega)) rfl rfl rfl ?_)
    rw [show encDn (doneW j) = [.int .i64 j, .int .i64 ((j : Int) + 1), .int .i64 0] from rfl]
    repeat (first | refine GD ?_ | refine NW fun _ => ?_)
    refine WL.step rfl (OP.eqAgg (EqAgg.neqSelf (xs := [.int .i64 j, .int .i64 ((j : Int) + 1), .int .i64 0]) rfl rfl rfl rfl (by kernel_rfl) (by kernel_rfl) (by kernel_rfl) rfl) rfl rfl ?_)
    repeat (first | refine GD ?_ | refine NW fun _ => ?_)
    refine WL.guardT rfl rfl rfl rfl (OP.load1 (v := .string l[j]) rfl rfl rfl rfl (Ent.elem (hR MM) (i := j * 1) rfl (by rw [Nat.mul_one, List.getElem?_map, List.getElem?_eq_getElem hjk]; rfl)) rfl rfl ?_)
    generalize l[j] = lj at *
    repeat (first | refine GD ?_ | refine NW fun _ => ?_)
    rw [decide_eq_true (rfl : lj = lj)]
    repeat (first | refine GD ?_ | refine NW fun _ => ?_)
    exact ⟨j + 1, hjm, by omega, ⟨rfl, rfl, rfl, rfl, rfl, trivial⟩, II⟩
end Go.Proofs.YtleajkobmhhacaaGreatDoor
