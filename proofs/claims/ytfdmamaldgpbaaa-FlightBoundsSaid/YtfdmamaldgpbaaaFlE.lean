/- Package flight: out. -/
import Derived.Test.YtfdmamaldgpbaaaFlD
namespace Go.Proofs.Ytfdmamaldgpbaaa
open Go Go.RowKit

theorem owns_new {w w' : World} {base : Nat} {e : TypeId} {size : Nat} {v : Value} {n : Nat} {xs : List Value} (h : w.ownsRow base e size v n xs) (hm : Mod (fun _ => False) w w') : w'.ownsRow base e size v n xs := by
  obtain ⟨h1, h2⟩ := h
  rcases h2 with h2 | ⟨g, cap, cur, hv, hb, hh, rest⟩
  · exact ⟨h1, .inl h2⟩
  · exact ⟨h1, .inr ⟨g, cap, cur, hv, hb, (show Blk w g cur e from hh).mod hm (fun h => h), rest⟩⟩
theorem owns_mod {S : Nat → Prop} {w w' : World} {base : Nat} {e : TypeId} {size : Nat} {v : Value} {n : Nat} {xs : List Value} (h : w.ownsRow base e size v n xs) (hm : Mod S w w') (hS : ∀ i, base ≤ i → ¬ S i) : w'.ownsRow base e size v n xs := by
  obtain ⟨h1, h2⟩ := h
  rcases h2 with h2 | ⟨g, cap, cur, hv, hb, hh, rest⟩
  · exact ⟨h1, .inl h2⟩
  · exact ⟨h1, .inr ⟨g, cap, cur, hv, hb, (show Blk w g cur e from hh).mod hm (hS g hb), rest⟩⟩
theorem rqL_get : ∀ (ks : List (Int × Rq)) (k j : Nat) (x : Int) (r : Rq), ks[k]? = some (x, r) → j < 3 → (rqL ks)[k * 3 + j]? = (rqC (x, r))[j]?
  | [], k, j, x, r, h, hj => by simp at h
  | q :: t, 0, j, x, r, h, hj => by
    simp at h
    subst h
    show (rqC (x, r) ++ rqL t)[0 * 3 + j]? = _
    rw [Nat.zero_mul, Nat.zero_add, List.getElem?_append_left (by simpa [rqC] using hj)]
  | q :: t, k + 1, j, x, r, h, hj => by
    show (rqC q ++ rqL t)[(k + 1) * 3 + j]? = _
    rw [List.getElem?_append_right (by simp [rqC]; omega), show (k + 1) * 3 + j - (rqC q).length = k * 3 + j by simp [rqC]; omega]
    exact rqL_get t k j x r (by simpa using h) hj
/-- The map behind the first rows of l. -/
def leftL (φ : Int × Rq → Bool) (l ks : List (Int × Rq)) : List (Int × Rq) := l.foldl (fun ks q => if φ q then delL ks q.1 else ks) ks
theorem leftL_add (φ : Int × Rq → Bool) (l ks : List (Int × Rq)) (q : Int × Rq) : leftL φ (l ++ [q]) ks = if φ q then delL (leftL φ l ks) q.1 else leftL φ l ks := by
  unfold leftL
  rw [List.foldl_append]
  rfl
theorem leftL_filter (φ : Int × Rq → Bool) : ∀ (l ks : List (Int × Rq)), leftL φ l ks = ks.filter fun q => l.all fun x => !φ x || q.1 != x.1
  | [], ks => by
    rw [List.filter_eq_self.2 (by simp)]; rfl
  | y :: l, ks => by
    show leftL φ l (if φ y then delL ks y.1 else ks) = _
    rw [leftL_filter φ l]
    by_cases h : φ y = true
    · rw [if_pos h]
      unfold delL
      rw [List.filter_filter]
      refine List.filter_congr fun q _ => ?_
      by_cases e : q.1 = y.1 <;> simp [h, e]
    · rw [if_neg h]
      refine List.filter_congr fun q _ => ?_
      simp [h]
theorem leftL_all (φ : Int × Rq → Bool) (ks : List (Int × Rq)) (hr : Rising ks) : leftL φ ks ks = ks.filter fun q => !φ q := by
  rw [leftL_filter]
  refine List.filter_congr fun q hq => ?_
  cases h : φ q with
  | true =>
    simp only [Bool.not_true]
    rw [List.all_eq_false]
    exact ⟨q, hq, by simp [h]⟩
  | false =>
    simp only [Bool.not_false]
    rw [List.all_eq_true]
    intro x hx
    by_cases e : q.1 = x.1
    · have h1 := lk_of_mem hr (k := q.1) (v := q.2) hq
      have h2 := lk_of_mem hr (k := x.1) (v := x.2) hx
      rw [← e, h1] at h2
      have : q = x := Prod.ext e (Option.some.inj h2)
      rw [← this, h]; rfl
    · simp [e]
theorem filter_take (φ : Int × Rq → Bool) (ks : List (Int × Rq)) (k : Nat) (q : Int × Rq) (h : ks[k]? = some q) : (ks.take (k + 1)).filter φ = (ks.take k).filter φ ++ if φ q then [q] else [] := by
  rw [List.take_add_one, h, List.filter_append]
  cases hq : φ q <;> simp [hq]

set_option maxRecDepth 100000 in
set_option maxHeartbeats 1000000 in
theorem flOut (F : FuncId) (caps : Array Value) (φ : Int × Rq → Bool) (b M : Nat) (most each pat : Int) (ks : List (Int × Rq)) (w : World) (h : TB w b M most each pat ks) (hlen : ks.length ≤ 1000) (hI : ∀ q ∈ ks, I64 q.1)
    (hE : ∀ args w, (callFunc F args).run Try.prog w = .ok (.enter F args) w)
    (hF : ∀ (w' : World) (ks' : List (Int × Rq)) (k : Int) (r : Rq), TB w' b M most each pat ks' → Mod (· = M) w w' → (k, r) ∈ ks → Calls Try.prog F (#[.agg #[.int .i64 r.p, .int .i64 k, .int .i64 r.t]] ++ caps) w' fun e w'' => e = .returned (.bool (φ (k, r))) ∧ Mod (fun _ => False) w' w'') :
    Calls Try.prog 30 #[.pointer (some ⟨b, 0, none⟩), .func (.func F) #[] caps] w fun e w' => (∃ v, e = .returned v ∧ w'.ownsRow w.heap.size 41 3 v (ks.filter φ).length (rqL (ks.filter φ))) ∧ TB w' b M most each pat (ks.filter fun q => !φ q) ∧ Mod (· = M) w w' := by
  have H := Lib.hid h
  have HRI := Lib.hid h.rising
  have HI := Lib.hid hI
  have HF := Lib.hid hF
  clear h hI hF
  go_enter Try.func30, Try.ntmps30
  go_wp2_with fail
  refine (flAll _ _ _ _ _ _ _ H.out hlen HI.out).mono ?_; rintro e w2 ⟨v, rfl, o, m⟩
  obtain ⟨ol, o2⟩ := o
  have M2 := Lib.hid m
  rcases o2 with ⟨rfl, hn⟩ | ⟨g, cap, cur, rfl, hg, hh, hcap, _, _, htk⟩
  · have hks : ks = [] := by simpa using hn
    subst hks
    clear ol hn m
    go_wp2_with fail
    go_loopw [5, 11] (fun v i wr => v = .slice none 0 0 ∧ i = .int .i64 0 ∧ wr = w2) (fun _ _ _ => 0)
    case atStart => exact ⟨rfl, rfl, rfl⟩
    case round =>
      obtain ⟨rfl, rfl, rfl⟩ := hrel
      go_wp2_with fail
      go_ret
      exact ⟨⟨_, rfl, World.ownsRow_nil _ _ _ _⟩, H.out.new M2.out, M2.out.mono (fun _ _ h => h.elim)⟩
  · have hB := (show Blk w2 g cur _ from hh)
    have hc : ∀ (k : Nat) (x : Int) (r : Rq), ks[k]? = some (x, r) → w2.cell? ((⟨g, 0, none⟩ : Addr).add (k * 3)) = some (.int .i64 r.p) ∧ w2.cell? ⟨((⟨g, 0, none⟩ : Addr).add (k * 3)).block, ((⟨g, 0, none⟩ : Addr).add (k * 3)).off + 1, none⟩ = some (.int .i64 x) ∧ w2.cell? ⟨((⟨g, 0, none⟩ : Addr).add (k * 3)).block, ((⟨g, 0, none⟩ : Addr).add (k * 3)).off + 2, none⟩ = some (.int .i64 r.t) := by
      intro k x r hk
      have ea : (⟨g, 0, none⟩ : Addr).add (k * 3) = ⟨g, k * 3, none⟩ := by
        cases h : k * 3 with
        | zero => rfl
        | succ n => simp [Addr.add]
      have hlt : k < ks.length := (List.getElem?_eq_some_iff.1 hk).1
      have hgt : ∀ (j : Nat) (u : Value), j < 3 → (rqC (x, r))[j]? = some u → w2.cell? ⟨g, k * 3 + j, none⟩ = some u := by
        intro j u hj hu
        rw [hB.cell, ← Array.getElem?_toList]
        have h2 := congrArg (fun l => l[k * 3 + j]?) htk
        simp only [List.getElem?_take] at h2
        rw [if_pos (by omega)] at h2
        rw [h2, rqL_get ks k j x r hk hj, hu]
      rw [ea]
      exact ⟨hgt 0 _ (by decide) rfl, hgt 1 _ (by decide) rfl, hgt 2 _ (by decide) rfl⟩
    obtain ⟨X, hX⟩ : ∃ X : Addr, X = ⟨g, 0, none⟩ := ⟨_, rfl⟩
    have hXM : ∀ n j, ¬ (X.add n).block = M ∧ ¬ (⟨(X.add n).block, (X.add n).off + j, none⟩ : Addr).block = M := by
      intro n j
      have := H.out.lt.2
      have e : ((⟨g, 0, none⟩ : Addr).add n).block = g := by cases n <;> rfl
      subst hX
      constructor
      · rw [e]; omega
      · show ¬ ((⟨g, 0, none⟩ : Addr).add n).block = M
        rw [e]; omega
    rw [← hX] at hc ⊢
    have HC := Lib.hid hc
    have hbd : ks.length ≤ cap := hcap
    clear ol hh hcap htk m hc hg hB hX
    go_wp2_with fail
    go_loopw [5, 11] (fun v i wr => ∃ k : Nat, i = .int .i64 k ∧ k ≤ ks.length ∧ Hid (wr.ownsRow w2.heap.size 41 3 v ((ks.take k).filter φ).length (rqL ((ks.take k).filter φ))) ∧ Hid (TB wr b M most each pat (leftL φ (ks.take k) ks)) ∧ Mod (· = M) w2 wr) (fun _ i _ => ks.length - (intOf i).toNat)
    case atStart => exact ⟨0, rfl, Nat.zero_le _, World.ownsRow_nil _ _ _ _, H.out.new M2.out, Mod.refl _ _⟩
    case round =>
      obtain ⟨k, rfl, hk, hown, hT, hm⟩ := hrel
      by_cases hlt : (k : Int) < ks.length
      · obtain ⟨⟨x, r⟩, hkr⟩ : ∃ q, ks[k]? = some q := ⟨_, List.getElem?_eq_getElem (by omega)⟩
        have hmem : (x, r) ∈ ks := List.mem_of_getElem? hkr
        obtain ⟨p0, p1, p2⟩ := HC.out k x r hkr
        have q0 := hm.cell p0 (by exact (hXM _ 0).1)
        have q1 := hm.cell p1 (by exact (hXM _ 1).2)
        have q2 := hm.cell p2 (by exact (hXM _ 2).2)
        have HM := Lib.hid hm
        have HL := Lib.hid (leftL_add φ (ks.take k) ks (x, r))
        have HFT := Lib.hid (filter_take φ ks k (x, r) hkr)
        have HTK := Lib.hid (show ks.take (k + 1) = ks.take k ++ [(x, r)] by rw [List.take_add_one, hkr]; rfl)
        have hw0 := hT.out.lt
        have HME := Lib.hid hmem
        clear p0 p1 p2 hkr hm hmem
        go_wp2_with fail
        refine (HF.out _ _ x r (hT.out.new ((Mod.refl (fun _ => False) wr).alloc _)) (((M2.out.mono (fun _ _ h => h.elim)).trans HM.out).alloc _) HME.out).mono ?_; rintro e w3 ⟨rfl, m3⟩
        have m13 := ((Mod.refl (fun _ => False) wr).alloc (.cells #[.int .i64 r.p, .int .i64 x, .int .i64 r.t] 41)).trans m3
        have T3 := Lib.hid (hT.out.new m13)
        have O3 := Lib.hid (owns_new hown.out m13)
        have MM3 := Lib.hid (HM.out.trans (m13.mono (fun _ _ h => h.elim)))
        have B3 := (Blk.new wr #[.int .i64 r.p, .int .i64 x, .int .i64 r.t] 41).mod m3 (fun h => h)
        have b0 := B3.cell 0; have b1 := B3.cell 1; have b2 := B3.cell 2
        have B3H := Lib.hid B3
        clear B3 m3 m13 q0 q1 q2
        cases hφ : φ (x, r) with
        | false =>
          have hk1 : ks.length - (k + 1) < ks.length - k := by omega
          go_wp2_with fail
          refine ⟨⟨k + 1, by go_num, by omega, ?_, ?_, MM3.out⟩, by simp [intOf]; omega⟩
          · show World.ownsRow _ _ _ _ _ _ _
            rw [HFT.out, hφ]
            simpa using O3.out
          · show TB _ _ _ _ _ _ _
            rw [HTK.out, HL.out, hφ]
            exact T3.out
        | true =>
          have c3 : w3.cell? ⟨b, 3, none⟩ = some (.map (some M)) := T3.out.head.cell 3
          go_wp2_with fail
          refine wp_region2 [] [] (by kernel_rfl) (by kernel_rfl) ?_
          repeat (first | (refine reg_anyT (by rfl) (fun K hK => ?_); go_simp; refine hK _ _ ?_; clear hK K) | (refine reg_read (by rfl) (fun K hK => ?_); go_simp; refine hK _ _ ?_; clear hK K))
          refine reg_eff (by rfl) (fun rn K hK => ?_)
          obtain ⟨w4, hrun, him, hm4, hz4⟩ := (T3.out.drewN rn).map.del Try.underlying3 Try.underlying47 0 (HI.out _ HME.out)
          go_simp
          refine hK _ _ ?_; clear hK K
          rw [del_mpV] at him
          refine reg_nil (fun nd => ?_)
          have hlt3 := T3.out.lt
          have hMw : ¬ wr.heap.size = M := by omega
          have B4 := (show Blk (w3.drewN rn) wr.heap.size _ _ from B3H.out).mod hm4 hMw
          have B5 := Lib.hid (show Blk (w4.drewN nd) wr.heap.size #[.int .i64 r.p, .int .i64 x, .int .i64 r.t] 41 from B4)
          have T5 : Hid (TB (w4.drewN nd) b M most each pat (delL (leftL φ (ks.take k) ks) x)) := (show TB w4 b M most each pat (delL (leftL φ (ks.take k) ks) x) from ⟨(T3.out.drewN rn).head.mod hm4 (fun e => T3.out.ne e.symm), him, T3.out.ne⟩).drewN nd
          have hM2 : M < w2.heap.size := by have := H.out.lt.2; have := M2.out.size; omega
          have hb2 : b < w2.heap.size := by have := H.out.lt.1; have := M2.out.size; omega
          have O5 : Hid ((w4.drewN nd).ownsRow w2.heap.size 41 3 u5 ((ks.take k).filter φ).length (rqL ((ks.take k).filter φ))) := owns_mod (S := (· = M)) (w := w3.drewN rn) (w' := w4.drewN nd) O3.out (hm4.drewN nd) (fun i hi (e : i = M) => by omega)
          have M5 := Lib.hid (((MM3.out.drewN rn).trans hm4).drewN nd)
          generalize w4.drewN nd = w5 at B5 T5 M5 O5 ⊢
          have d0 := B5.out.cell 0; have d1 := B5.out.cell 1; have d2 := B5.out.cell 2
          have hlen1 : ((ks.take k).filter φ).length ≤ 1000 := by
            have := List.length_filter_le φ (ks.take k)
            have h2 : (ks.take k).length ≤ k := List.length_take_le _ _
            omega
          clear B4 hm4 him hz4 hrun b0 b1 b2 c3
          go_wp2_with (at_builtin; refine appK rfl (.tmp 24) (.tmp 26) 36 41 3 rfl Try.underlying36 infoRq rfl (by decide) _ _ _ #[.int .i64 r.p, .int .i64 x, .int .i64 r.t] rfl M5.out O5.out rfl rfl (by simp [Value.oneCell']) (by decide) (by omega) ?_; intro v' w' g1 g2 g3)
          have G1 := Lib.hid g1
          have T6 := Lib.hid (T5.out.mod g3 (by show ¬ _ ≤ b; omega) (by show ¬ _ ≤ M; omega))
          clear g1 g3
          go_wp2_with fail
          refine ⟨⟨k + 1, by go_num, by omega, ?_, ?_, g2⟩, by simp [intOf]; omega⟩
          · show World.ownsRow _ _ _ _ _ _ _
            rw [HFT.out, hφ]
            have := G1.out
            simpa [rqL, rqC] using this
          · show TB _ _ _ _ _ _ _
            rw [HTK.out, HL.out, hφ]
            exact T6.out
      · have hkn : k = ks.length := by omega
        have hO := hown.out
        rw [hkn, List.take_length] at hO
        have hT2 := hT.out
        rw [hkn, List.take_length, leftL_all φ ks HRI.out] at hT2
        have HO := Lib.hid hO
        have HT := Lib.hid hT2
        have HM := Lib.hid hm
        clear hkn hm hown hO hT hT2
        go_wp2_with fail
        go_ret
        exact ⟨⟨_, rfl, HO.out.mono M2.out.size⟩, HT.out, (M2.out.mono (fun _ _ h => h.elim)).trans HM.out⟩
end Go.Proofs.Ytfdmamaldgpbaaa
