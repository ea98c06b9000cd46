/- Package rarest: Count, Of, Pick; no condition but the table. -/
import Derived.Test.YtfopglaagnbacaaDoorRaB
namespace Go.Proofs.YtfopglaagnbacaaDoor
open Go Go.RowKit

theorem owns_new {w w' : World} {base : Nat} {e : TypeId} {size : Nat} {v : Value} {n : Nat} {xs : List Value} (h : w.ownsRow base e size v n xs) (hm : Mod (fun _ => False) w w') : w'.ownsRow base e size v n xs := owns_modG h hm fun _ _ h => h
/-- What Count tells. -/
def cntR (c : Nat → Int) (n : Nat) (k : Int) : Int := if 0 ≤ k ∧ k < n then c k.toNat else 0


/-- The rarest so far. -/
def pickS (c : Nat → Int) (l : List Nat) (i : Nat) : List Nat :=
  match l with
  | [] => [i]
  | h :: t => if c i < c h then [i] else if c i = c h then (h :: t) ++ [i] else h :: t
def pickL (c : Nat → Int) (F : Nat → Bool) : Nat → List Nat
  | 0 => []
  | k + 1 => if F k = true then pickS c (pickL c F k) k else pickL c F k
theorem pickL_skip {c : Nat → Int} {F : Nat → Bool} {k : Nat} : ∀ {m : Nat}, (∀ j, k ≤ j → j < k + m → F j ≠ true) → pickL c F (k + m) = pickL c F k
  | 0, _ => rfl
  | m + 1, h => by
    show (if F (k + m) = true then _ else pickL c F (k + m)) = _
    rw [if_neg (h (k + m) (by omega) (by omega)), pickL_skip fun j h1 h2 => h j h1 (by omega)]
theorem pickL_to {c : Nat → Int} {F : Nat → Bool} {k i : Nat} (hk : k ≤ i) (h : ∀ j, k ≤ j → j < i → F j ≠ true) : pickL c F i = pickL c F k := by
  obtain ⟨m, rfl⟩ : ∃ m, i = k + m := ⟨i - k, by omega⟩
  exact pickL_skip h
theorem pickL_lt (c : Nat → Int) (F : Nat → Bool) : ∀ k x, x ∈ pickL c F k → x < k
  | 0, x, h => by simp [pickL] at h
  | k + 1, x, h => by
    unfold pickL at h
    have ih := pickL_lt c F k
    split at h
    · unfold pickS at h
      split at h
      · simp at h; omega
      · rename_i y t e
        rw [e] at ih
        split at h
        · simp at h; omega
        · split at h
          · rcases List.mem_append.1 h with h | h
            · have := ih x h; omega
            · simp at h; omega
          · have := ih x h; omega
    · have := ih x h; omega
theorem pickL_len (c : Nat → Int) (F : Nat → Bool) : ∀ k, (pickL c F k).length ≤ k
  | 0 => Nat.le_refl _
  | k + 1 => by
    have ih := pickL_len c F k
    unfold pickL
    split
    · unfold pickS
      split
      · simp
      · rename_i y t e
        rw [e] at ih
        split
        · simp
        · split
          · rw [List.length_append]; simp at *; omega
          · simp at *; omega
    · omega
def pickR (c : Nat → Int) (F : Nat → Bool) (n : Nat) (seed : Int) : Int :=
  if (pickL c F n).length = 0 then -1 else (((pickL c F n).getD (blw seed (pickL c F n).length).toNat 0 : Nat) : Int)
theorem blw_at (seed : Int) {n : Nat} (h : 0 < n) : ∃ k : Nat, blw seed (n : Int) = (k : Int) ∧ k < n := by
  have h1 := blw_lt seed (n := (n : Int)) (by omega)
  have h2 := blw_nonneg seed (n : Int)
  exact ⟨(blw seed (n : Int)).toNat, by omega, by omega⟩
abbrev natL (l : List Nat) : List Value := l.map fun (x : Nat) => .int .i64 (x : Int)

set_option maxRecDepth 100000 in
set_option maxHeartbeats 4000000 in
theorem rarePick (peer seed : Int) (o : Ow) (s' sg' b M g n : Nat) (most : Int) (c : Nat → Int) (ks : List (Int × Ow)) (f' : Nat → Bool) (w : World) (h : BD w b M g n most c ks) (hs : BSet w s' sg' n f') (hT : TabW w) (hI : I64 peer) (hl : lkL ks peer = some o) (hn : n ≤ 1024) :
    Calls Tryd.prog 21 #[.pointer (some ⟨b, 0, none⟩), .int .i64 peer, .pointer (some ⟨s', 0, none⟩), .int .u64 seed] w fun e w' => e = .returned (.int .i64 (pickR c (fLess o.f f') n seed)) ∧ Mod (fun _ => False) w w' := by
  have c2 := h.head.cell 2; have c0 := h.head.cell 0
  have hlk := h.map.lookOk Tryd.underlying3 Tryd.underlying73 (zeroPtr w) hI
  rw [lk_mpO, hl] at hlk
  simp only [Option.map_some, Option.getD_some, Option.isSome_some] at hlk
  have hz := zeroPtr
  obtain ⟨F, hF⟩ : ∃ F, F = fLess o.f f' := ⟨_, rfl⟩
  rw [← hF]
  have hso := h.sets _ (lk_some_mem hl)
  have H := Lib.hid h
  have HS := Lib.hid hs
  have HO := Lib.hid hso
  have HT := Lib.hid hT
  have HFE := Lib.hid hF
  have HN := Lib.hid hn
  have hnn : ((n : Int) != (n : Int)) = false := by simp
  obtain ⟨R, hR⟩ : ∃ R, R = pickR c F n seed := ⟨_, rfl⟩
  rw [← hR]
  have HR := Lib.hid hR
  clear h hs hso hT hF hI hn hl hR
  go_enter Tryd.func21, Tryd.ntmps21
  go_upto_region 2 with fail
  clear hlk
  refine wp_region2 [] [28] (by kernel_rfl) (by kernel_rfl) ?_
  repeat (first | (refine reg_anyT (by rfl) (fun K hK => ?_); go_simp; refine hK _ _ ?_; clear hK K) | (refine reg_read (by rfl) (fun K hK => ?_); go_simp; refine hK _ _ ?_; clear hK K))
  refine reg_read (by rfl) (fun K hK => ?_); go_simp
  refine ⟨_, fun rn => rd_same (bitsLen s' sg' n f' _ (HS.out.drewN rn)), hK _ _ ?_⟩; clear hK K
  repeat (first | (refine reg_anyT (by rfl) (fun K hK => ?_); go_simp; refine hK _ _ ?_; clear hK K) | (refine reg_read (by rfl) (fun K hK => ?_); go_simp; refine hK _ _ ?_; clear hK K))
  refine reg_nil (fun nd => ?_)
  have md := (Mod.refl (fun _ => False) w).drewN nd
  have HL := Lib.hid (bitsLess o.s o.g s' sg' n o.f f' (w.drewN nd) (HO.out.drewN nd) (HS.out.drewN nd))
  rw [← HFE.out] at HL
  have H1 := Lib.hid (H.out.new md)
  have HT1 := Lib.hid (HT.out.mod md (fun h => h))
  have M1 := Lib.hid md
  clear md c0 c2
  generalize w.drewN nd = w1 at *
  go_wp2_with fail
  refine HL.out.mono ?_; rintro e w2 ⟨mb, mg, rfl, h2, m2, _, _⟩
  have HF0 := Lib.hid h2
  have H2 := Lib.hid (H1.out.new m2)
  have HT2 := Lib.hid (HT1.out.mod m2 (fun h => h))
  have M2 := Lib.hid (M1.out.trans m2)
  have HN0 := Lib.hid (bitsNext mb mg n F 0 true w2 h2 HT2.out)
  clear h2 m2 HL
  go_wp2_with fail
  refine HN0.out.mono ?_; rintro e w' ⟨rfl, rfl⟩
  have HF := HF0
  have HT5 := HT2
  have c3 := H2.out.head.cell 3
  go_wp2_with fail
  go_loopw [11, 14] (fun u v wr => ∃ k : Nat, v = .int .i64 (nx F true n k) ∧ k ≤ n ∧ Hid (wr.ownsRow w2.heap.size 3 1 u (pickL c F k).length (natL (pickL c F k))) ∧ Hid (Mod (fun _ => False) w2 wr)) (fun _ v _ => nxM n v)
  case atStart => exact ⟨0, rfl, Nat.zero_le _, World.ownsRow_nil _ _ _ _, Mod.refl _ _⟩
  case round =>
    obtain ⟨k, rfl, hk, hown, hm⟩ := hrel
    rcases nx_spec F true n k with ⟨hx, hno⟩ | ⟨i, hx, hki, hin, hfi, hno⟩
    · have hpk : pickL c F n = pickL c F k := pickL_to hk fun j h1 h2 => hno j h1 h2
      have h1 := hown.out
      rw [← hpk] at h1
      have O1 := Lib.hid h1
      have M3 := Lib.hid (M2.out.trans hm.out)
      obtain ⟨zs, hzs⟩ : ∃ zs, zs = pickL c F n := ⟨_, rfl⟩
      have hrr := HR.out
      unfold pickR at hrr
      rw [← hzs] at hrr O1 h1
      obtain ⟨m, hm'⟩ : ∃ m, m = zs.length := ⟨_, rfl⟩
      have hml : m ≤ 1024 := by have := pickL_len c F n; have := HN.out; rw [hm', hzs]; omega
      rw [← hm'] at hrr O1 h1
      obtain ⟨a, cap, rfl, hcap, he, hxb⟩ := h1.els
      have HE := Lib.hid he
      have HML := Lib.hid hm'
      rw [hx]
      clear hx hno hown h1 he hzs hm' hpk
      by_cases h0 : m = 0
      · subst h0
        rw [if_pos rfl] at hrr
        subst hrr
        go_wp2_with fail
        go_ret
        exact ⟨rfl, M3.out⟩
      · rw [if_neg h0] at hrr
        obtain ⟨j, hj, hjn⟩ := blw_at seed (n := m) (by omega)
        obtain ⟨x, hx⟩ : ∃ x, zs[j]? = some x := ⟨_, List.getElem?_eq_getElem (by have := HML.out; omega)⟩
        rw [hj, Int.toNat_natCast, List.getD_eq_getElem?_getD, hx] at hrr
        subst hrr
        have hn0 : ((m : Int) == 0) = false := by simpa using h0
        have hwn : IntKind.u64.wrap (m : Int) = (m : Int) := by unfold IntKind.wrap; simp [IntKind.bits, IntKind.signed]; omega
        have hU : U64 (m : Int) := ⟨by omega, by omega⟩
        obtain ⟨X, rfl, c0, _⟩ := HE.out j hjn
        have d0 := c0 (.int .i64 x) (by simp [hx])
        rw [Nat.mul_one] at d0
        have hkn2 : (j : Int) < m := by omega
        obtain ⟨w1', hw1'⟩ : ∃ w1', w1' = wr := ⟨_, rfl⟩
        rw [← hw1'] at d0 hxb M3 ⊢
        clear hw1' O1 HE c0 hm
        have HJ := Lib.hid hj
        have HU := Lib.hid hU
        clear hx hj hU h0
        go_wp2_with fail
        refine (drawNew seed _).mono ?_; rintro e w4 ⟨rfl, rfl⟩
        have ma := (Mod.refl (fun _ => False) w1').alloc (.cells #[.int .u64 seed] 62)
        have d1 := ma.cell d0 (fun h => h)
        have XA := Blk.new w1' #[.int .u64 seed] 62
        have HB := Lib.hid (drawBelow seed (m : Int) w1'.heap.size _ (XA.cell 0) (XA.frozen 0) HU.out)
        rw [HJ.out] at HB
        have MA := Lib.hid (M3.out.trans ma)
        have hxl := (hxb X rfl).2
        have m2 := (Mod.refl (· = w1'.heap.size) (w1'.alloc (.cells #[.int .u64 seed] 62))).setCell (p := ⟨w1'.heap.size, 0, none⟩) (.inl rfl) (.int .u64 (stp seed))
        have d2 := m2.cell d1 (by show ¬ (X.add j).block = w1'.heap.size; rw [Addr.add_block]; omega)
        have M4 := Lib.hid (MA.out.setCell (p := ⟨w1'.heap.size, 0, none⟩) (.inr (by have := M3.out.size; exact this)) (.int .u64 (stp seed)))
        clear XA ma d0 d1 m2 hxl hxb M3
        go_wp2_with fail
        refine HB.out.mono ?_; rintro e w5 ⟨rfl, hw5⟩
        rw [hw5] at d2 M4
        clear hw5 HB MA
        go_wp2_with fail
        go_ret
        exact ⟨rfl, M4.out⟩
    · have hpk : pickL c F i = pickL c F k := pickL_to hki fun j h1 h2 => hno j h1 h2
      have hp1 : pickL c F (i + 1) = pickS c (pickL c F k) i := by
        show (if F i = true then pickS c (pickL c F i) i else _) = _
        rw [if_pos hfi, hpk]
      have hlt := pickL_lt c F k
      have hln := pickL_len c F k
      have hc3 := hm.out.cell c3 (fun h => h)
      have hcn := H2.out.cn.mod hm.out (fun h => h)
      have hci := (hcn.at hin).1
      obtain ⟨ci, hcie⟩ : ∃ x, x = c i := ⟨_, rfl⟩
      rw [← hcie] at hci
      have HIN := Lib.hid (show k ≤ i ∧ i < n from ⟨hki, hin⟩)
      have hin' : (i : Int) < n := by omega
      have hn' := HN.out
      have hw2 : IntKind.i64.wrap ((i : Int) + 1) = (i : Int) + 1 := by unfold IntKind.wrap; simp [IntKind.bits, IntKind.signed]; omega
      rw [hx]
      cases hpl : pickL c F k with
      | nil =>
        rw [hpl] at hp1 hown
        have HPK := Lib.hid (show pickL c F (i + 1) = [i] from hp1)
        obtain ⟨a, cap, rfl, hcap, he, _⟩ := hown.out.els
        have OW0 := hown
        have M0 := hm
        have HCI := Lib.hid hcie
        clear hx hno hpk hp1 hlt hln hcn hcie hfi he hpl hown hm
        simp only [List.length_nil] at *
        obtain ⟨w0, hw0⟩ : ∃ w0, w0 = wr := ⟨_, rfl⟩
        rw [← hw0] at M0 OW0 hc3 hci ⊢
        clear hw0
        go_upto_region 9 with fail
        go_quiet (fail)
        have MA := Lib.hid (M0.out.drewN nq)
        have OWA := Lib.hid (owns_new OW0.out ((Mod.refl (fun _ => False) w0).drewN nq))
        clear M0 OW0 hc3 hci
        generalize w0.drewN nq = wa at *
        have hc3 := MA.out.cell c3 (fun h => h)
        have hci := ((H2.out.cn.mod MA.out (fun h => h)).at HIN.out.2).1
        rw [← HCI.out] at hci
        go_upto_region 11 with fail
        go_quiet (fail)
        have MB := Lib.hid (MA.out.drewN nq)
        have OWB := Lib.hid (owns_new OWA.out ((Mod.refl (fun _ => False) wa).drewN nq))
        clear MA OWA hc3 hci
        generalize wa.drewN nq = wb at *
        go_wp2_with (at_builtin; refine app1 (base := w2.heap.size) rfl (.tmp 97) (.tmp 99) 31 3 1 rfl Tryd.underlying31 infoInt rfl (by decide) _ _ _ _ 1 [.int .i64 (i : Int)] (by have := MB.out.size; simp; omega) (OWB.out.alloc _) rfl rfl (sl_new wb #[.int .i64 (i : Int)] 3) (by simp [Value.oneCell']) (by decide) (by omega) ?_; intro v' w' g1 g2 g3; have G1 := Lib.hid g1; have G2 := Lib.hid (((Mod.refl _ wb).alloc (.cells #[.int .i64 (i : Int)] 3)).trans g2); clear g1 g2 g3)
        have MX := Lib.hid (MB.out.new G2.out (own_ge OWB.out))
        have HN1 := Lib.hid (bitsNext mb mg n F ((i : Int) + 1) true _ (HF.out.mod MX.out (fun h => h) (fun h => h)) (HT5.out.mod MX.out (fun h => h)))
        rw [show ((i : Int) + 1).toNat = i + 1 by omega] at HN1
        refine HN1.out.mono ?_; rintro e w' ⟨rfl, rfl⟩
        go_wp2_with fail
        refine ⟨⟨i + 1, rfl, by have := HIN.out; omega, ?_, MX⟩, nxM_less HIN.out.2⟩
        show World.ownsRow _ _ _ _ _ _ _
        rw [HPK.out]
        exact G1.out
      | cons hd t =>
        rw [hpl] at hp1 hown hlt hln
        obtain ⟨m, hme⟩ : ∃ m, m = (hd :: t).length := ⟨_, rfl⟩
        rw [← hme] at hown hln
        have hm0 : 0 < m := by rw [hme]; simp
        have hm0' : (0 : Int) < (m : Int) := by omega
        have hm1 : ((m : Int) == 0) = false := by simp; omega
        obtain ⟨a, cap, rfl, hcap, he, _⟩ := hown.out.els
        have hhd : hd < n := by have := hlt hd (List.mem_cons_self ..); omega
        have hhd' : (hd : Int) < n := by omega
        obtain ⟨ch, hche⟩ : ∃ x, x = c hd := ⟨_, rfl⟩
        have hch := (hcn.at hhd).1
        rw [← hche] at hch
        obtain ⟨X, rfl, y0, _⟩ := he 0 hm0
        have z0 := y0 (.int .i64 (hd : Int)) rfl
        rw [Nat.zero_mul] at z0
        have hX : X.add 0 = X := by simp [Addr.add]
        rw [hX] at z0
        have OW0 := hown
        have M0 := hm
        have HCI := Lib.hid hcie
        have HCH := Lib.hid hche
        have HHD := Lib.hid hhd
        have HEL := Lib.hid he
        have HZ0 : Hid (∀ wx, Mod (fun _ => False) wr wx → wx.cell? X = some (.int .i64 (hd : Int))) := fun wx h => h.cell z0 (fun h => h)
        have HME := Lib.hid hme
        have hps : pickL c F (i + 1) = if ci < ch then [i] else if ci = ch then (hd :: t) ++ [i] else hd :: t := by rw [hp1, hcie, hche]; rfl
        clear hx hno hpk hp1 hlt hcn hcie hche hfi he hpl hown hm y0 hme hX
        obtain ⟨w0, hw0⟩ : ∃ w0, w0 = wr := ⟨_, rfl⟩
        rw [← hw0] at M0 OW0 hc3 hci hch z0 HZ0 ⊢
        clear hw0
        rcases Int.lt_trichotomy ci ch with g | g | g
        · have HPK := Lib.hid (show pickL c F (i + 1) = [i] by rw [hps, if_pos g])
          clear hps
          go_upto_region 9 with fail
          go_quiet (fail)
          have MA := Lib.hid (M0.out.drewN nq)
          have OWA := Lib.hid (owns_new OW0.out ((Mod.refl (fun _ => False) w0).drewN nq))
          have z1 : (w0.drewN nq).cell? X = some (.int .i64 (hd : Int)) := z0
          clear M0 OW0 hc3 hci hch z0 HZ0 HEL
          generalize w0.drewN nq = wa at *
          have hc3 := MA.out.cell c3 (fun h => h)
          have hci := ((H2.out.cn.mod MA.out (fun h => h)).at HIN.out.2).1
          rw [← HCI.out] at hci
          have hch := ((H2.out.cn.mod MA.out (fun h => h)).at HHD.out).1
          rw [← HCH.out] at hch
          go_upto_region 11 with fail
          go_quiet (fail)
          have MB := Lib.hid (MA.out.drewN nq)
          have OWB := Lib.hid (owns_new OWA.out ((Mod.refl (fun _ => False) wa).drewN nq))
          clear MA OWA hc3 hci hch z1
          generalize wa.drewN nq = wb at *
          have OWN0 : Hid (wb.ownsRow w2.heap.size 3 1 (.slice none 0 0) 0 (natL [])) := World.ownsRow_nil _ _ _ _
          clear OWB
          have OWB := OWN0
          go_wp2_with (at_builtin; refine app1 (base := w2.heap.size) rfl (.tmp 97) (.tmp 99) 31 3 1 rfl Tryd.underlying31 infoInt rfl (by decide) _ _ _ _ 1 [.int .i64 (i : Int)] (by have := MB.out.size; simp; omega) (OWB.out.alloc _) rfl rfl (sl_new wb #[.int .i64 (i : Int)] 3) (by simp [Value.oneCell']) (by decide) (by omega) ?_; intro v' w' g1 g2 g3; have G1 := Lib.hid g1; have G2 := Lib.hid (((Mod.refl _ wb).alloc (.cells #[.int .i64 (i : Int)] 3)).trans g2); clear g1 g2 g3)
          have MX := Lib.hid (MB.out.new G2.out (own_ge OWB.out))
          have HN1 := Lib.hid (bitsNext mb mg n F ((i : Int) + 1) true _ (HF.out.mod MX.out (fun h => h) (fun h => h)) (HT5.out.mod MX.out (fun h => h)))
          rw [show ((i : Int) + 1).toNat = i + 1 by omega] at HN1
          refine HN1.out.mono ?_; rintro e w' ⟨rfl, rfl⟩
          go_wp2_with fail
          refine ⟨⟨i + 1, rfl, by have := HIN.out; omega, ?_, MX⟩, nxM_less HIN.out.2⟩
          show World.ownsRow _ _ _ _ _ _ _
          rw [HPK.out]
          exact G1.out
        · have HPK := Lib.hid (show pickL c F (i + 1) = (hd :: t) ++ [i] by rw [hps, if_neg (by omega), if_pos g])
          have g1 : decide (ci < ch) = false := by simp; omega
          have g2 : (ci == ch) = true := by simpa using g
          clear hps g
          go_upto_region 9 with fail
          go_quiet (fail)
          have MA := Lib.hid (M0.out.drewN nq)
          have OWA := Lib.hid (owns_new OW0.out ((Mod.refl (fun _ => False) w0).drewN nq))
          have z1 : (w0.drewN nq).cell? X = some (.int .i64 (hd : Int)) := z0
          clear M0 OW0 hc3 hci hch z0 HZ0 HEL
          generalize w0.drewN nq = wa at *
          have hc3 := MA.out.cell c3 (fun h => h)
          have hci := ((H2.out.cn.mod MA.out (fun h => h)).at HIN.out.2).1
          rw [← HCI.out] at hci
          have hch := ((H2.out.cn.mod MA.out (fun h => h)).at HHD.out).1
          rw [← HCH.out] at hch
          go_upto_region 11 with fail
          go_quiet (fail)
          have MB := Lib.hid (MA.out.drewN nq)
          have OWB := Lib.hid (owns_new OWA.out ((Mod.refl (fun _ => False) wa).drewN nq))
          clear MA OWA hc3 hci hch z1
          generalize wa.drewN nq = wb at *
          go_wp2_with (at_builtin; refine app1 (base := w2.heap.size) rfl (.tmp 97) (.tmp 99) 31 3 1 rfl Tryd.underlying31 infoInt rfl (by decide) _ _ _ _ 1 [.int .i64 (i : Int)] (by have := MB.out.size; simp; omega) (OWB.out.alloc _) rfl rfl (sl_new wb #[.int .i64 (i : Int)] 3) (by simp [Value.oneCell']) (by decide) (by omega) ?_; intro v' w' g1 g2 g3; have G1 := Lib.hid g1; have G2 := Lib.hid (((Mod.refl _ wb).alloc (.cells #[.int .i64 (i : Int)] 3)).trans g2); clear g1 g2 g3)
          have MX := Lib.hid (MB.out.new G2.out (own_ge OWB.out))
          have HN1 := Lib.hid (bitsNext mb mg n F ((i : Int) + 1) true _ (HF.out.mod MX.out (fun h => h) (fun h => h)) (HT5.out.mod MX.out (fun h => h)))
          rw [show ((i : Int) + 1).toNat = i + 1 by omega] at HN1
          refine HN1.out.mono ?_; rintro e w' ⟨rfl, rfl⟩
          go_wp2_with fail
          refine ⟨⟨i + 1, rfl, by have := HIN.out; omega, ?_, MX⟩, nxM_less HIN.out.2⟩
          show World.ownsRow _ _ _ _ _ _ _
          rw [HPK.out]
          rw [show natL ((hd :: t) ++ [i]) = natL (hd :: t) ++ [.int .i64 (i : Int)] by simp [natL], List.length_append, ← HME.out]
          exact G1.out
        · have HPK := Lib.hid (show pickL c F (i + 1) = hd :: t by rw [hps, if_neg (by omega), if_neg (by omega)])
          have g1 : decide (ci < ch) = false := by simp; omega
          have g2 : (ci == ch) = false := by simp; omega
          clear hps g
          go_upto_region 9 with fail
          go_quiet (fail)
          have MA := Lib.hid (M0.out.drewN nq)
          have OWA := Lib.hid (owns_new OW0.out ((Mod.refl (fun _ => False) w0).drewN nq))
          have z1 : (w0.drewN nq).cell? X = some (.int .i64 (hd : Int)) := z0
          clear M0 OW0 hc3 hci hch z0 HZ0 HEL
          generalize w0.drewN nq = wa at *
          have hc3 := MA.out.cell c3 (fun h => h)
          have hci := ((H2.out.cn.mod MA.out (fun h => h)).at HIN.out.2).1
          rw [← HCI.out] at hci
          have hch := ((H2.out.cn.mod MA.out (fun h => h)).at HHD.out).1
          rw [← HCH.out] at hch
          go_upto_region 11 with fail
          go_quiet (fail)
          have MB := Lib.hid (MA.out.drewN nq)
          have OWB := Lib.hid (owns_new OWA.out ((Mod.refl (fun _ => False) wa).drewN nq))
          clear MA OWA hc3 hci hch z1
          generalize wa.drewN nq = wb at *
          go_wp2_with fail
          have MX := MB
          have HN1 := Lib.hid (bitsNext mb mg n F ((i : Int) + 1) true _ (HF.out.mod MX.out (fun h => h) (fun h => h)) (HT5.out.mod MX.out (fun h => h)))
          rw [show ((i : Int) + 1).toNat = i + 1 by omega] at HN1
          refine HN1.out.mono ?_; rintro e w' ⟨rfl, rfl⟩
          go_wp2_with fail
          refine ⟨⟨i + 1, rfl, by have := HIN.out; omega, ?_, MX⟩, nxM_less HIN.out.2⟩
          show World.ownsRow _ _ _ _ _ _ _
          rw [HPK.out]
          rw [← HME.out]
          exact OWB.out
end Go.Proofs.YtfopglaagnbacaaDoor
