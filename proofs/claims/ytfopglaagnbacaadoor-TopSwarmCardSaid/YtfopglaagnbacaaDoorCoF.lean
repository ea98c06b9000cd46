/- Package conn: Next; of TrailingZeros64's table: as it is laid. -/
import Derived.Test.YtfopglaagnbacaaDoorCoE
import Derived.WalkMore
namespace Go.Proofs.YtfopglaagnbacaaDoor
open Go Go.RowKit

/-- A peer is asked for as much as there is. -/
def runS (n : Nat) (mo ea : Int) (L : LB) (f : Nat → Bool) (now seed p : Int) : Nat → LT × LT → LT × LT
  | 0, st => st
  | m + 1, st => match askS n mo ea L f now seed p st with
    | none => st
    | some st' => runS n mo ea L f now seed p m st'
/-- Every peer that may be asked. -/
def nextS (n : Nat) (mo ea : Int) (L : LB) (f : Nat → Bool) (now seed : Int) (may : List Int) : List Int → LT × LT → LT × LT
  | [], st => st
  | p :: ps, st => nextS n mo ea L f now seed may ps (if p ∈ may then runS n mo ea L f now seed p 300 st else st)
/-- What Next does: the table, the requests, the error. -/
def nextA (n : Nat) (mo ea : Int) (L : LB) (now : Int) (x : Option (Nat × (Nat → Bool))) (may : List Int) (seed : Int) (T : LT) : LT × LT × Int :=
  if rightA n now x = true then ((nextS n mo ea L (x.getD (0, fun _ => false)).2 now seed may (keysL L) (T, [])).1, (nextS n mo ea L (x.getD (0, fun _ => false)).2 now seed may (keysL L) (T, [])).2, 0) else (T, [], 1)
theorem nextA_some {n : Nat} {mo ea : Int} {L : LB} {now : Int} {f : Nat → Bool} {may : List Int} {seed : Int} {T : LT} (hq : 0 ≤ now ∧ now ≤ 1099511627776) : nextA n mo ea L now (some (n, f)) may seed T = ((nextS n mo ea L f now seed may (keysL L) (T, [])).1, (nextS n mo ea L f now seed may (keysL L) (T, [])).2, 0) := by
  unfold nextA
  rw [if_pos (by unfold rightA; simp [hq])]
  rfl
theorem askS_len {n : Nat} {mo ea : Int} {L : LB} {f : Nat → Bool} {now seed p : Int} {st st' : LT × LT} (h : askS n mo ea L f now seed p st = some st') : st'.2.length = st.2.length + 1 := by
  unfold askS askAt at h
  split at h
  · cases h
  · split at h
    · cases h; simp
    · cases h
theorem runS_none {n : Nat} {mo ea : Int} {L : LB} {f : Nat → Bool} {now seed p : Int} {m : Nat} {st : LT × LT} (h : askS n mo ea L f now seed p st = none) : runS n mo ea L f now seed p (m + 1) st = st := by
  show (match askS n mo ea L f now seed p st with | none => st | some st' => runS n mo ea L f now seed p m st') = st
  rw [h]
theorem runS_some {n : Nat} {mo ea : Int} {L : LB} {f : Nat → Bool} {now seed p : Int} {m : Nat} {st st' : LT × LT} (h : askS n mo ea L f now seed p st = some st') : runS n mo ea L f now seed p (m + 1) st = runS n mo ea L f now seed p m st' := by
  show (match askS n mo ea L f now seed p st with | none => st | some st' => runS n mo ea L f now seed p m st') = _
  rw [h]
/-- How long the list is that lies in a box. -/
def lenAt (w : World) (b : Nat) : Nat := match w.cell? ⟨b, 0, none⟩ with
  | some (.slice _ n _) => n
  | _ => 0
theorem Sl.keepM {S : Nat → Prop} {w w' : World} {v : Value} {n : Nat} {xs : List Value} (h : Sl w v 1 n xs) (hm : Mod S w w') (hS : ∀ x m c, v = .slice (some x) m c → 0 < n → ¬ S x.block) : Sl w' v 1 n xs := by
  rcases h with h | ⟨x, c, rfl, hl, h⟩
  · exact .inl h
  · refine .inr ⟨x, c, rfl, hl, fun j u hj => hm.cell (h j u hj) ?_⟩
    rw [Addr.add_block]
    exact hS x _ c rfl (by have := (List.getElem?_eq_some_iff.1 hj).1; omega)
theorem AskI.len {w : World} {base cs cn cd cl ct z zg s b M g t tM n : Nat} {pm mo ea pa now seed : Int} {ks : List (Int × Ow)} {f : Nat → Bool} {st : LT × LT} (h : AskI w base cs cn cd cl ct z zg s b M g t tM n pm mo ea pa now seed ks f st) : lenAt w cl = st.2.length := by
  obtain ⟨v, h1, h2⟩ := h.b4
  obtain ⟨a, cap, rfl, _⟩ := h2.els
  have hc : w.cell? ⟨cl, 0, none⟩ = some (.slice a st.2.length cap) := h1.cell 0
  unfold lenAt
  rw [hc]
set_option maxRecDepth 100000 in
set_option maxHeartbeats 4000000 in
theorem connNext (now seed : Int) (so : Option Nat) (x : Option (Nat × (Nat → Bool))) (mv : Value) (ml : Nat) (may : List Int) (s b M g t tM n : Nat) (pm mo ea pa : Int) (ks : List (Int × Ow)) (L : LB) (T : LT) (w : World) (h : SW w s b M g t tM n pm mo ea pa ks T) (hT : TabW w) {lo : Nat} (hs : SoB lo w so x) (hm : Sl w mv 1 ml (intL may)) (hml : ml ≤ 9007199254740992) (hmv : ∀ x m c, mv = .slice (some x) m c → 0 < ml → x.block ≠ tM) (he : mapV Ow.f ks = L) (hok : Fl.Okk mo ea T) (hob : OkB pm L) (hmo : mo ≤ 256) (hpm : pm ≤ 64) (hkn : ∀ q ∈ T, q.1 < (n : Int)) (hn : n ≤ 1024) (hlow : ∀ i, SWb s b M g t tM ks i → gTab < i) :
    Calls Tryd.prog 9 #[.pointer (some ⟨s, 0, none⟩), .int .i64 now, .pointer (so.map fun s => ⟨s, 0, none⟩), mv, .int .u64 seed] w fun e w' => RqE (nextA n mo ea L now x may seed T).2.1 (nextA n mo ea L now x may seed T).2.2 w e w' ∧ Fl.TB w' t tM mo ea pa (nextA n mo ea L now x may seed T).1 ∧ Mod (· = tM) w w' := by
  have hslt : s < w.heap.size := h.blk.lt
  have hrr := fun w' (m : Mod (fun _ => False) w w') => connRight now so x s n w' (m.cell h.at.1 (fun h => h)) (lo := lo) (by
    rcases hs with ⟨e1, e2⟩ | ⟨y, yg, m', f', e1, e2, hy, l1, l2⟩
    · exact .inl ⟨e1, e2⟩
    · exact .inr ⟨y, yg, m', f', e1, e2, hy.mod m (fun h => h) (fun h => h), l1, l2⟩)
  have HRI := Lib.hid hrr
  clear hrr
  have ma : Mod (fun _ => False) w (((w.alloc (.cells #[.pointer (some ⟨s, 0, none⟩)] 24)).alloc (.cells #[.int .i64 now] 3)).alloc (.cells #[.int .u64 seed] 38)) := (((Mod.refl (fun _ => False) w).alloc _).alloc _).alloc _
  obtain ⟨wa, hwa⟩ : ∃ wa, wa = (((w.alloc (.cells #[.pointer (some ⟨s, 0, none⟩)] 24)).alloc (.cells #[.int .i64 now] 3)).alloc (.cells #[.int .u64 seed] 38)) := ⟨_, rfl⟩
  rw [← hwa] at ma
  have bs : wa.cell? ⟨w.heap.size, 0, none⟩ = some (.pointer (some ⟨s, 0, none⟩)) := by rw [hwa]; exact (((Blk.new w _ _).alloc _).alloc _).cell 0
  have bt : wa.cell? ⟨w.heap.size + 1, 0, none⟩ = some (.int .i64 now) := by
    rw [hwa]
    have := ((Blk.new (w.alloc (.cells #[.pointer (some ⟨s, 0, none⟩)] 24)) #[.int .i64 now] 3).alloc (.cells #[.int .u64 seed] 38)).cell 0
    simpa using this
  have bd : wa.cell? ⟨w.heap.size + 1 + 1, 0, none⟩ = some (.int .u64 seed) := by
    rw [hwa]
    have := (Blk.new ((w.alloc (.cells #[.pointer (some ⟨s, 0, none⟩)] 24)).alloc (.cells #[.int .i64 now] 3)) #[.int .u64 seed] 38).cell 0
    simpa using this
  have za : wa.heap.size = w.heap.size + 3 := by rw [hwa]; simp
  by_cases hr : rightA n now x = true
  · obtain ⟨hq, f, rfl⟩ := rightA_some hr
    rw [hr] at HRI
    rw [nextA_some hq]
    rcases hs with ⟨_, e⟩ | ⟨y, yg, m, f', rfl, e, hy, _, _⟩
    · cases e
    cases e
    have hlen : T.length ≤ 256 := by have := hok.len; omega
    have hlk : ks.length ≤ 64 := by have h1 := hob.len; rw [← he, mapV_len] at h1; omega
    have HY := Lib.hid (hy.mod ma (fun h => h) (fun h => h))
    have HRIa := Lib.hid (HRI.out wa ma)
    have HSWa := Lib.hid (h.new ma)
    have HTa := Lib.hid (hT.mod ma fun h => h)
    have HMV : Hid (∀ x m c, mv = .slice (some x) m c → 0 < ml → x.block ≠ tM ∧ x.block < w.heap.size) := fun x m c e h0 => by
      refine ⟨hmv x m c e h0, ?_⟩
      obtain ⟨hml', a, c', hv, hc⟩ := sl_ints hm
      rw [hv] at e
      cases e
      obtain ⟨x', e', hx⟩ := hc 0 _ (List.getElem?_eq_getElem (by omega))
      cases e'
      have := World.block_lt_of_cell? w _ hx
      rwa [Addr.add_block] at this
    have HMAY := Lib.hid (hm.mod ma (fun _ _ _ _ h => h))
    have HMA := Lib.hid ma
    have HOK := Lib.hid hok
    have HKN := Lib.hid hkn
    have HKK : Hid (∀ q ∈ T, 0 ≤ q.1 ∧ q.1 < (n : Int)) := fun q hq => ⟨(hok.rng q hq).1, hkn q hq⟩
    have HKI : Hid (∀ p ∈ keysL L, I64 p) := fun p hp => by
      unfold keysL at hp
      obtain ⟨q, hq, rfl⟩ := List.mem_map.1 hp
      exact hob.i64 q hq
    have HLOW := Lib.hid hlow
    have HLT : Hid (∀ i, SWb s b M g t tM ks i → i < w.heap.size) := fun i hi => h.lt hi
    have HSM : Hid (mo ≤ 256 ∧ n ≤ 1024 ∧ ks.length ≤ 64 ∧ gTab < w.heap.size) := ⟨hmo, hn, hlk, hT.lt⟩
    have HE := Lib.hid he
    have HKL : Hid ((keysL L).length ≤ 64) := by show (keysL L).length ≤ 64; unfold keysL; rw [List.length_map]; have := hob.len; omega
    obtain ⟨R, hR⟩ : ∃ R, R = nextS n mo ea L f now seed may (keysL L) (T, []) := ⟨_, rfl⟩
    rw [← hR]
    have HR := Lib.hid hR
    have HZA := Lib.hid za
    clear h hT hok hkn hy hr hR hn hmo hpm hob hlow hlk he hm ma HRI hslt hq za hmv
    dsimp only
    go_enter Tryd.func9, Tryd.ntmps9
    go_wp2_with fail
    go_step3
    go_upto_region 1 with fail
    rw [← hwa]
    clear hwa
    go_wp2_with fail
    refine HRIa.out.mono ?_; rintro e w1 ⟨rfl, m1⟩
    have bs := m1.cell bs (fun h => h); have bt := m1.cell bt (fun h => h); have bd := m1.cell bd (fun h => h)
    have HO := Lib.hid (connOut y yg f s b M g t tM n pm mo ea pa ks T w1 (HSWa.out.new m1) (HY.out.mod m1 (fun h => h) (fun h => h)) hlen HOK.out.i64 HKK.out)
    have HM1 := Lib.hid (HMA.out.trans m1)
    have HZ1 := Lib.hid m1.size
    have HSW1 := Lib.hid (HSWa.out.new m1)
    have HT1 := Lib.hid (HTa.out.mod m1 fun h => h)
    have HMAY1 := Lib.hid (HMAY.out.mod m1 (fun _ _ _ _ h => h))
    clear m1 HSWa HY HTa HMAY HMA HRIa
    go_wp2_with fail
    refine HO.out.mono ?_; rintro e w2 ⟨z, zg, rfl, h2, m2, l1, l2⟩
    have m3 : Mod (fun _ => False) w2 ((w2.alloc (.cells #[.pointer (some ⟨z, 0, none⟩)] 28)).alloc (.cells #[.slice none 0 0] 39)) := ((Mod.refl (fun _ => False) w2).alloc _).alloc _
    obtain ⟨w3, hw3⟩ : ∃ w3, w3 = ((w2.alloc (.cells #[.pointer (some ⟨z, 0, none⟩)] 28)).alloc (.cells #[.slice none 0 0] 39)) := ⟨_, rfl⟩
    rw [← hw3] at m3
    have m23 := m2.trans m3
    have bn : w3.cell? ⟨w2.heap.size, 0, none⟩ = some (.pointer (some ⟨z, 0, none⟩)) := by rw [hw3]; exact ((Blk.new w2 _ _).alloc _).cell 0
    have HBL : Hid (Blk w3 (w2.heap.size + 1) #[.slice none 0 0] 39) := by
      show Blk _ _ _ _
      rw [hw3]
      have := Blk.new (w2.alloc (.cells #[.pointer (some ⟨z, 0, none⟩)] 28)) #[.slice none 0 0] 39
      simpa using this
    have HZ3 : Hid (w3.heap.size = w2.heap.size + 2) := by show _ = _; rw [hw3]; simp
    have bs := m2.cell bs (fun h => h)
    have HBS := Lib.hid (m3.cell bs (fun h => h)); have HBT := Lib.hid (m23.cell bt (fun h => h)); have HBD := Lib.hid (m23.cell bd (fun h => h))
    have HBN := Lib.hid bn
    have HSW3 := Lib.hid (HSW1.out.new m23)
    have HS3 := Lib.hid (h2.mod m3 (fun h => h) (fun h => h))
    have HT3 := Lib.hid (HT1.out.mod m23 fun h => h)
    have HMAY3 := Lib.hid (HMAY1.out.mod m23 (fun _ _ _ _ h => h))
    have HM3 := Lib.hid (HM1.out.trans m23)
    have HLZ : Hid ((w1.heap.size ≤ z ∧ z < w2.heap.size) ∧ w1.heap.size ≤ zg ∧ zg < w2.heap.size) := ⟨⟨l1, h2.lt.1⟩, l2, h2.lt.2⟩
    have hpe := rarePeers b M g n pm (cO ks) ks w3 HSW3.out.bd (by have := HSM.out; omega)
    rw [← keys_mapV Ow.f ks, HE.out] at hpe
    have HPE := Lib.hid hpe
    have c1 := HSW3.out.at.2.1
    have bs3 := HBS.out
    clear h2 m2 m23 l1 l2 bt bd bn hpe HSW1 HT1 HMAY1 HM1 HO
    have c1' := (HSW3.out.at.2.1)
    clear c1'
    go_upto_region 6 with fail
    rw [← hw3]
    clear hw3
    go_wp2_with fail
    go_step3
    go_wp2_with fail
    refine HPE.out.mono ?_; rintro e w4 ⟨v, rfl, o4, m4⟩
    obtain ⟨hkl, a, c, rfl, hcells⟩ := sl_ints o4.sl
    have HCE := Lib.hid hcells
    have HXB : Hid (∀ X : Addr, a = some X → w3.heap.size ≤ X.block ∧ X.block < w4.heap.size) := fun X e => by subst e; exact o4.blk X _ _ rfl
    obtain ⟨cd, hcd⟩ : ∃ x, x = w.heap.size + 1 + 1 := ⟨_, rfl⟩
    obtain ⟨ct, hct⟩ : ∃ x, x = w.heap.size + 1 := ⟨_, rfl⟩
    obtain ⟨cs, hcs⟩ : ∃ x, x = w.heap.size := ⟨_, rfl⟩
    obtain ⟨cl, hcl⟩ : ∃ x, x = w2.heap.size + 1 := ⟨_, rfl⟩
    obtain ⟨cn, hcn⟩ : ∃ x, x = w2.heap.size := ⟨_, rfl⟩
    rw [← hcd] at HBD; rw [← hct] at HBT; rw [← hcs] at HBS; rw [← hcl] at HBL; rw [← hcn] at HBN
    have HK : Hid (AskK w4.heap.size cs cn cd cl ct z zg s b M g t tM n mo ks L) := by
      have k1 := HZA.out; have k2 := HZ1.out; have k3 := HZ3.out; have k4 := m4.size; have k5 := HLZ.out; have k6 := HSM.out; have k7 := HM3.out.size
      have kt := HLT.out tM (.inr (.inr (.inr rfl)))
      refine ⟨fun i hi => ?_, ⟨fun e => by have := HLT.out _ e; omega, fun e => by have := HLT.out _ e; omega, by omega⟩, ⟨by omega, by omega⟩, ⟨⟨by omega, by omega, by omega⟩, ⟨by omega, by omega, by omega⟩, ⟨by omega, by omega, by omega⟩, ⟨by omega, by omega, by omega⟩⟩, HE.out, ⟨k6.1, k6.2.1⟩⟩
      rcases hi with e | e | e | e | e | e | e | e
      · have h1 := HLT.out i e
        have h2 := HLOW.out i e
        omega
      all_goals omega
    have HAI : Hid (AskI w4 w4.heap.size cs cn cd cl ct z zg s b M g t tM n pm mo ea pa now seed ks f (T, [])) :=
      ⟨HSW3.out.new m4, HS3.out.mod m4 (fun h => h) (fun h => h), m4.cell HBS.out (fun h => h), m4.cell HBN.out (fun h => h), m4.cell HBD.out (fun h => h), ⟨_, HBL.out.mod m4 (fun h => h), World.ownsRow_nil _ _ _ _⟩, m4.cell HBT.out (fun h => h), HOK.out, HKN.out, Nat.zero_le _, HT3.out.mod m4 (fun h => h), Nat.le_refl _⟩
    have HMAY4 := Lib.hid (HMAY3.out.mod m4 (fun _ _ _ _ h => h))
    have HM4 := Lib.hid (HM3.out.trans m4)
    have HXC : Hid (∀ X : Addr, a = some X → X.block ≠ tM ∧ X.block ≠ zg ∧ X.block ≠ cl ∧ X.block < w4.heap.size) := fun X e => by
      have h1 := HXB.out X e
      have k3 := HZ3.out; have k5 := HLZ.out; have kt := HLT.out tM (.inr (.inr (.inr rfl))); have k7 := HM3.out.size
      omega
    have HKB : Hid ((w.heap.size ≤ zg ∧ w.heap.size ≤ cl) ∧ w.heap.size ≤ w4.heap.size) := by
      have k1 := HZA.out; have k2 := HZ1.out; have k3 := HZ3.out; have k5 := HLZ.out; have k7 := HM4.out.size
      show (_ ∧ _) ∧ _
      omega
    rw [← hcd, ← hct, ← hcs, ← hcl, ← hcn]
    obtain ⟨KL, hKL⟩ : ∃ x, x = keysL L := ⟨_, rfl⟩
    rw [← hKL] at HR HCE HKI HKL hkl ⊢
    clear hcd hct hcs hcl hcn hkl o4 hcells m4 HBS HBN HBD HBL HBT HSW3 HS3 HT3 HMAY3 HM3 HXB HLZ HZ1 HZ3 HZA HLT HLOW HSM HPE c1 bs3 bs m3 hKL HKK HKN HOK hlen
    go_wp2_with fail
    go_loopw [32] (fun i wr => ∃ (k : Nat) (st : LT × LT), i = .int .i64 k ∧ k ≤ KL.length ∧ Hid (AskI wr w4.heap.size cs cn cd cl ct z zg s b M g t tM n pm mo ea pa now seed ks f st) ∧ Hid (nextS n mo ea L f now seed may (KL.drop k) st = R) ∧ Hid (Mod (fun i => i = tM ∨ i = zg ∨ i = cl ∨ w4.heap.size ≤ i) w4 wr)) (fun i _ => KL.length - (intOf i).toNat)
    case atStart => exact ⟨0, (T, []), rfl, Nat.zero_le _, HAI.out, by show _ = _; rw [HR.out]; rfl, Mod.refl _ _⟩
    case round =>
      obtain ⟨k, st1, rfl, hk, hI, hRR, hM⟩ := hrel
      by_cases hlt : (k : Int) < KL.length
      · have hlt2 : k < KL.length := by omega
        obtain ⟨p, hp⟩ : ∃ p, KL[k]? = some p := ⟨_, List.getElem?_eq_getElem hlt2⟩
        obtain ⟨X, rfl, px⟩ := HCE.out k p hp
        have hX := HXC.out X rfl
        have px := hM.out.cell px (by rw [Addr.add_block]; omega)
        have HPI := Lib.hid (HKI.out p (List.mem_of_getElem? hp))
        have HST : Hid (nextS n mo ea L f now seed may (KL.drop (k + 1)) (if p ∈ may then runS n mo ea L f now seed p 300 st1 else st1) = R) := by
          have := hRR.out
          rw [List.drop_eq_getElem_cons hlt2, (List.getElem?_eq_some_iff.1 hp).2] at this
          exact this
        have HK2 : Hid (k < KL.length ∧ KL.length ≤ 64) := ⟨hlt2, HKL.out⟩
        obtain ⟨wb, hwb⟩ : ∃ wb : World, wb = wr := ⟨_, rfl⟩
        rw [← hwb] at hI hM px ⊢
        clear hwb hp hX hRR
        go_wp2_with fail
        go_loopw [] (fun wr => ∃ (m : Nat) (st2 : LT × LT), Hid (AskI wr w4.heap.size cs cn cd cl ct z zg s b M g t tM n pm mo ea pa now seed ks f st2) ∧ Hid (m + st2.2.length = 300 + st1.2.length) ∧ Hid ((if p ∈ may then runS n mo ea L f now seed p m st2 else st2) = (if p ∈ may then runS n mo ea L f now seed p 300 st1 else st1)) ∧ Hid (Mod (fun i => i = tM ∨ i = zg ∨ i = cl ∨ w4.heap.size ≤ i) w4 wr)) (fun wr => 600 - lenAt wr cl)
        case atStart => exact ⟨300, st1, hI.out, rfl, rfl, hM.out⟩
        case round =>
          obtain ⟨m, st2, hI2, hm2, hr2, hM2⟩ := hrel
          have hbm : st2.2.length ≤ 256 := by have h1 := hI2.out.ll; have h2 := hI2.out.ok.len; have h3 := HK.out.sm; omega
          have HHI := Lib.hid (hasInt mv ml may p wr (HMAY4.out.keepM hM2.out fun x m c e h0 => by
            have h1 := HMV.out x m c e h0
            have h2 := HKB.out
            omega) hml)
          by_cases hpm : p ∈ may
          · rw [decide_eq_true hpm] at HHI
            rw [if_pos hpm, if_pos hpm] at hr2
            rw [if_pos hpm] at HST
            obtain ⟨m', rfl⟩ : ∃ m', m = m' + 1 := ⟨m - 1, by have := hm2.out; omega⟩
            obtain ⟨A, hA⟩ : ∃ A, A = askS n mo ea L f now seed p st2 := ⟨_, rfl⟩
            have HA := connAsk p w4.heap.size cs cn cd cl ct z zg s b M g t tM n pm mo ea pa now seed ks L f st2 wr HK.out hI2.out HPI.out
            have hrs1 : A = none → runS n mo ea L f now seed p (m' + 1) st2 = st2 := fun e => runS_none (hA.symm.trans e)
            have hrs2 : ∀ st', A = some st' → runS n mo ea L f now seed p (m' + 1) st2 = runS n mo ea L f now seed p m' st' := fun st' e => runS_some (hA.symm.trans e)
            rw [← hA] at HA
            have HLA : Hid (∀ st', A = some st' → st'.2.length = st2.2.length + 1) := fun st' e => askS_len (hA.symm.trans e)
            have HLN2 := Lib.hid hI2.out.len
            have HAA := Lib.hid HA
            clear HA hA
            cases A with
            | none =>
              have HR3 := Lib.hid ((hrs1 rfl).symm.trans hr2.out)
              clear hrs1 hrs2 hr2 hm2 hI2
              go_wp2_with fail
              refine HHI.out.mono ?_; rintro e w5 ⟨rfl, rfl⟩
              go_wp2_with fail
              refine HAA.out.mono ?_; rintro e w5 ⟨rfl, hI5, hM5⟩
              have HI5 := Lib.hid hI5
              have HM5 := Lib.hid (hM2.out.trans2 hM5 fun i e => .inl e)
              clear hI5 hM5
              go_wp2_with fail
              go_roundw
              case rel =>
                have hk2 := HK2.out
                have hkw : wrap64 ((k : Int) + 1) = ((k + 1 : Nat) : Int) := by unfold wrap64; omega
                exact ⟨k + 1, st2, by rw [hkw], by omega, HI5.out, by show _ = _; rw [HR3.out]; exact HST.out, HM5.out⟩
              case measure =>
                have hk2 := HK2.out
                have hkw : wrap64 ((k : Int) + 1) = ((k + 1 : Nat) : Int) := by unfold wrap64; omega
                rw [hkw]
                simp [intOf]
                omega
            | some st3 =>
              have HR3 := Lib.hid ((hrs2 _ rfl).symm.trans hr2.out)
              have HL3 := Lib.hid (HLA.out _ rfl)
              have HMM : Hid (m' + st3.2.length = 300 + st1.2.length) := by have h1 := hm2.out; have h2 := HL3.out; show _ = _; omega
              clear hrs1 hrs2 hr2 hm2 hI2 HLA
              go_wp2_with fail
              refine HHI.out.mono ?_; rintro e w5 ⟨rfl, rfl⟩
              go_wp2_with fail
              refine HAA.out.mono ?_; rintro e w5 ⟨rfl, hI5, hM5⟩
              have HI5 := Lib.hid hI5
              have HM5 := Lib.hid (hM2.out.trans2 hM5 fun i e => .inl e)
              have HLN3 := Lib.hid hI5.len
              clear hI5 hM5
              go_wp2_with fail
              go_roundw
              case rel => exact ⟨m', st3, HI5.out, HMM.out, by show _ = _; rw [if_pos hpm, if_pos hpm]; exact HR3.out, HM5.out⟩
              case measure =>
                have h1 := HLN2.out
                have h2 : lenAt w5 cl = st3.2.length := HLN3.out
                have h3 := HL3.out
                show 600 - lenAt w5 cl < 600 - lenAt wr cl
                omega
          · rw [decide_eq_false hpm] at HHI
            rw [if_neg hpm, if_neg hpm] at hr2
            rw [if_neg hpm] at HST
            have HR3 := Lib.hid hr2.out
            clear hr2 hm2
            go_wp2_with fail
            refine HHI.out.mono ?_; rintro e w5 ⟨rfl, rfl⟩
            go_wp2_with fail
            go_roundw
            case rel =>
                have hk2 := HK2.out
                have hkw : wrap64 ((k : Int) + 1) = ((k + 1 : Nat) : Int) := by unfold wrap64; omega
                exact ⟨k + 1, st2, by rw [hkw], by omega, hI2.out, by show _ = _; rw [HR3.out]; exact HST.out, hM2.out⟩
            case measure =>
                have hk2 := HK2.out
                have hkw : wrap64 ((k : Int) + 1) = ((k + 1 : Nat) : Int) := by unfold wrap64; omega
                rw [hkw]
                simp [intOf]
                omega
      · have hkd : KL.drop k = [] := List.drop_eq_nil_of_le (by omega)
        have hR2 := hRR.out
        rw [hkd] at hR2
        have hR3 : st1 = R := hR2
        subst hR3
        obtain ⟨v, hv, ho⟩ := hI.out.b4
        obtain ⟨a4, cap4, rfl, _, _, _⟩ := ho.els
        have c4 : wr.cell? ⟨cl, 0, none⟩ = some (.slice a4 st1.2.length cap4) := hv.cell 0
        have HO4 := Lib.hid ho
        clear hkd hR2 hv ho hRR
        go_wp2_with fail
        go_ret2
        refine ⟨⟨_, rfl, HO4.out.mono HKB.out.2⟩, hI.out.sw.tb, (HM4.out.mono (S' := (· = tM)) fun _ _ e => e.elim).trans2 hM.out fun i e => ?_⟩
        have h1 := HKB.out
        omega
  · have e1 : nextA n mo ea L now x may seed T = (T, [], 1) := by unfold nextA; rw [if_neg hr]
    rw [e1]
    have hr' : rightA n now x = false := by simpa using hr
    rw [hr'] at HRI
    have HRIa := Lib.hid (HRI.out wa ma)
    have HTB := Lib.hid (h.tb.new ma)
    have HMA := Lib.hid ma
    clear h hT hs hok hkn hr hr' e1 hn hmo hob hpm hlow he hm hmv bd za ma HRI hslt
    go_enter Tryd.func9, Tryd.ntmps9
    go_wp2_with fail
    go_step3
    go_upto_region 1 with fail
    rw [← hwa]
    clear hwa
    go_wp2_with fail
    refine HRIa.out.mono ?_; rintro e w1 ⟨rfl, m1⟩
    have HTB1 := Lib.hid (HTB.out.new m1)
    have HM1 := Lib.hid (HMA.out.trans m1)
    clear m1
    go_wp2_with fail
    rw [Exit.noGoto_ret]
    go_ret2
    exact ⟨⟨_, rfl, World.ownsRow_nil _ _ _ _⟩, HTB1.out, HM1.out.mono fun _ _ e => e.elim⟩
end Go.Proofs.YtfopglaagnbacaaDoor
