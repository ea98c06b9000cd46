/- Journal of bits: the steps of the statement TopJournal; no condition. -/
import Derived.Test.YtdlplablojdjlaaJv
import Derived.Test.YtdlplablojdjlaaBitsS
namespace Go.Proofs.Ytdlplablojdjlaa
open Go Go.RowKit Go.IntWalk

theorem strB {w : World} {v : Value} {m : Nat} {bs : List Nat} (h : Sl w v 1 m (byts bs)) : (convert 37 9 v).run Try.prog w = .ok (.string (strOf bs)) w :=
  str_conv w _ _ 5 (by kernel_rfl) (by kernel_rfl) (by kernel_rfl) _ m _ h
theorem Sl.ex {w w' : World} {v : Value} {size n : Nat} {xs : List Value} (h : Sl w v size n xs) (hx : Ex w w') : Sl w' v size n xs := h.keep fun _ _ hp _ => hx.cell hp
theorem ofB_bytesOf (f : Nat → Bool) (n : Nat) (h : ∀ i, n ≤ i → f i = false) : ofB (bytesOf f n) ((n + 7) / 8) = f := by
  funext x
  unfold ofB
  by_cases hx : x < 8 * ((n + 7) / 8)
  · have h1 : (bytesOf f n).getD (x / 8) 0 = byt f (x / 8) := by
      unfold bytesOf
      rw [List.getD_eq_getElem?_getD, List.getElem?_map, List.getElem?_range (by omega)]
      rfl
    rw [h1, testBit_byt, show 8 * (x / 8) + x % 8 = x by omega]
    have : x % 8 < 8 := by omega
    simp [hx, this]
  · rw [h x (by omega)]
    simp [hx]
theorem len_bytesOf (f : Nat → Bool) (n : Nat) : (bytesOf f n).length = (n + 7) / 8 := by simp [bytesOf]
theorem Ct.put (E : List Nat) (N : Nat) (h : 1 ≤ N) : Ct (hd 0 0 ++ (hd 1 E.length ++ E)) N E := ⟨0, 0, 1, E.length, rfl, rfl, rfl, fun _ => rfl, Nat.zero_le _, Nat.le_refl _, Nat.zero_le _, h, rfl⟩
theorem Ct.len {bs : List Nat} {N : Nat} {E : List Nat} (h : Ct bs N E) : bs.length = 32 + E.length := by
  obtain ⟨a0, b0, a1, b1, rfl, _⟩ := h
  rw [List.length_append, List.length_append, len_hd, len_hd]
  omega
theorem Ct.commit {bs : List Nat} {N : Nat} {E x : List Nat} (h : Ct bs N E) : Ct (wr (bs ++ x) ((N + 1) % 2 * 16) (hd (N + 1) (E.length + x.length))) (N + 1) (E ++ x) := by
  obtain ⟨a0, b0, a1, b1, rfl, e0, e1, z0, l0, l1, s0, s1, hL⟩ := h
  have hlen : (E ++ x).length = E.length + x.length := by simp
  by_cases hp : (N + 1) % 2 = 0
  · refine ⟨N + 1, E.length + x.length, a1, b1, ?_, hp, e1, fun e => by omega, by omega, by omega, Nat.le_refl _, by omega, ?_⟩
    · rw [hp]
      unfold wr
      rw [Nat.zero_mul, List.take_zero, List.nil_append, len_hd, Nat.zero_add, List.append_assoc, List.drop_append_of_le_length (by rw [len_hd]; exact Nat.le_refl _), List.drop_eq_nil_of_le (by rw [len_hd]; exact Nat.le_refl _), List.nil_append, List.append_assoc]
    · rw [if_neg (by omega), hlen]
  · have hp1 : (N + 1) % 2 = 1 := by omega
    refine ⟨a0, b0, N + 1, E.length + x.length, ?_, e0, hp1, z0, by omega, by omega, by omega, Nat.le_refl _, ?_⟩
    · rw [hp1]
      unfold wr
      rw [Nat.one_mul, len_hd, List.append_assoc, List.take_append_of_le_length (by rw [len_hd]; exact Nat.le_refl _), List.take_of_length_le (by rw [len_hd]; exact Nat.le_refl _), List.append_assoc]
      congr 2
    · rw [if_pos (by omega), hlen]
theorem JS.tm {w w' : World} {base base' j d m N S C : Nat} {F : FileS} {st wv : Value} {ls : List LT3} {ts : List TypeId} (h : JS w base j d F m st wv ls N S C) (hm : TM ts base' w w') (h1 : 5 ∉ ts) (h2 : ∀ t ∈ tJ, t ∉ ts) : JS w' base j d F m st wv ls N S C :=
  ⟨hm.blk h.jb (h2 _ (by simp)), h.dk.tm hm h1 (fun t ht => h2 t (by simp at ht ⊢; exact .inr ht)), h.jge⟩
/-- Set, disk and journal; rs: the records. -/
structure TJ (w : World) (base d x g n j i : Nat) (f : Nat → Bool) (rs : List (List Nat)) : Prop where
  s : ∃ m st wv F N S, JS w base j d F m st wv [] N S S ∧ F.s = F.n ∧ Ct F.n N (encs rs) ∧ S = (encs rs).length ∧ OkR rs ∧ N ≤ i + 1 ∧ S ≤ 39 * (i + 1)
  b : BSet w x g n f
  gb : base ≤ g
/-- Behind Append. -/
structure TA (w : World) (base d x g n j i : Nat) (f : Nat → Bool) (rs : List (List Nat)) : Prop where
  s : ∃ m st wv b bs s y N E, JS w base j d ⟨b, bs ++ ((n + 7) / 8 :: bytesOf f n), s⟩ m st wv [(b, y)] N (E + (1 + (n + 7) / 8)) E ∧ Ct bs N (encs rs) ∧ E = (encs rs).length ∧ OkR rs ∧ N ≤ i + 1 ∧ E ≤ 39 * (i + 1)
  b : BSet w x g n f
  gb : base ≤ g
/-- Behind a crash. -/
structure TK (w : World) (base d x g n i : Nat) (f : Nat → Bool) (rs : List (List Nat)) : Prop where
  s : ∃ m st F N, DK w base d 16777216 m (qNew F) st [m] (.slice none 0 0) [] ∧ Ct F.n N (encs rs) ∧ OkR rs ∧ N ≤ i + 1 ∧ (encs rs).length ≤ 39 * (i + 1)
  b : BSet w x g n f
  gb : base ≤ g
theorem BSet.tm {w w' : World} {base x g n : Nat} {f : Nat → Bool} {ts : List TypeId} (h : BSet w x g n f) (hm : TM ts base w w') (h1 : 68 ∉ ts) (h2 : 52 ∉ ts) : BSet w' x g n f := by
  obtain ⟨c, hc⟩ := h.head
  obtain ⟨cs, hcs, hk⟩ := h.words
  exact ⟨⟨⟨c, hm.blk hc h2⟩, h.ne, ⟨cs, hm.blk hcs h1, hk⟩, h.small⟩, h.out⟩
section
variable {w w' : World} {base d x g n j i : Nat} {f : Nat → Bool} {rs : List (List Nat)}
theorem TJ.new (h : TJ w base d x g n j i f rs) (hm : Mod (fun _ => False) w w') : TJ w' base d x g n j i f rs := by
  obtain ⟨m, st, wv, F, N, S, h1, h2⟩ := h.s
  exact ⟨⟨m, st, wv, F, N, S, h1.new hm, h2⟩, h.b.mod hm (fun e => e) (fun e => e), h.gb⟩
theorem TA.new (h : TA w base d x g n j i f rs) (hm : Mod (fun _ => False) w w') : TA w' base d x g n j i f rs := by
  obtain ⟨m, st, wv, b, bs, s, y, N, E, h1, h2⟩ := h.s
  exact ⟨⟨m, st, wv, b, bs, s, y, N, E, h1.new hm, h2⟩, h.b.mod hm (fun e => e) (fun e => e), h.gb⟩
theorem TJ.more {i' : Nat} (h : TJ w base d x g n j i f rs) (hi : i ≤ i') : TJ w base d x g n j i' f rs := by
  obtain ⟨m, st, wv, F, N, S, h1, h2, h3, h4, h5, h6, h7⟩ := h.s
  exact ⟨⟨m, st, wv, F, N, S, h1, h2, h3, h4, h5, by omega, by omega⟩, h.b, h.gb⟩
theorem tjPut (h : TJ w base d x g n j i f rs) (p : Nat) (hp : p < n) :
    Calls Try.prog 8 #[.pointer (some ⟨x, 0, none⟩), .int .i64 p, .bool true] w fun e w' => e = .returned (.int .i64 0) ∧ TJ w' base d x g n j i (fil f p (p + 1) true) rs ∧ TM [68] base w w' := by
  refine (bitsPut x g n f p true w h.b hp).mono ?_
  rintro e w' ⟨rfl, b', hm⟩
  obtain ⟨cs, hcs, _⟩ := h.b.words
  have ht : TM [68] base w w' := TM.of hm fun k _ e => by
    subst e
    exact ⟨h.gb, isT.of_blk hcs (by simp)⟩
  obtain ⟨m, st, wv, F, N, S, h1, h2⟩ := h.s
  exact ⟨rfl, ⟨⟨m, st, wv, F, N, S, h1.tm ht (by simp) (by simp), h2⟩, b', h.gb⟩, ht⟩
theorem tjAppend (h : TJ w base d x g n j i f rs) (hi : i ≤ 200) (hn : n ≤ 300) {u : Value} (hu : BS w u (bytesOf f n)) :
    Calls Try.prog 9 #[.pointer (some ⟨j, 0, none⟩), u] w fun e w' => e = .returned (.int .i64 0) ∧ TA w' base d x g n j i f rs ∧ TM tJ base w w' := by
  obtain ⟨m, st, wv, ⟨b, bs, s⟩, N, S, h1, h2, h3, h4, h5, h6, h7⟩ := h.s
  have hl := len_bytesOf f n
  refine (jAppend h1 (by rw [h3.len, h4]) hu (by omega) (by omega)).mono ?_
  rintro e w' ⟨rfl, ⟨wv', y, js⟩, ht⟩
  rw [hl] at js
  exact ⟨rfl, ⟨⟨m, st, wv', b, bs, s, y, N, S, js, h3, h4, h5, h6, h7⟩, h.b.tm ht (by simp) (by simp), h.gb⟩, ht⟩
theorem tjCommit (h : TA w base d x g n j i f rs) (hi : i ≤ 200) (h1n : 1 ≤ n) (hn : n ≤ 300) :
    Calls Try.prog 11 #[.pointer (some ⟨j, 0, none⟩)] w fun e w' => e = .returned (.int .i64 0) ∧ TJ w' base d x g n j (i + 1) f (rs ++ [bytesOf f n]) ∧ TM tJ base w w' := by
  obtain ⟨m, st, wv, b, bs, s, y, N, E, h1, h3, h4, h5, h6, h7⟩ := h.s
  have hl := len_bytesOf f n
  have he : encs (rs ++ [bytesOf f n]) = encs rs ++ ((n + 7) / 8 :: bytesOf f n) := by rw [encs_append]; simp [encs, hl]
  have hel : (encs (rs ++ [bytesOf f n])).length = E + (1 + (n + 7) / 8) := by rw [he, List.length_append, List.length_cons, hl, h4]; omega
  refine (jCommit h1 (by omega) (by omega) (by omega) (by rw [List.length_append, h3.len, List.length_cons, hl]; omega)).mono ?_
  rintro e w' ⟨rfl, ⟨wv', js⟩, ht⟩
  refine ⟨rfl, ⟨⟨m, st, wv', _, N + 1, _, js, rfl, ?_, hel.symm, ?_, by omega, by omega⟩, h.b.tm ht (by simp) (by simp), h.gb⟩, ht⟩
  · have hc := h3.commit (x := (n + 7) / 8 :: bytesOf f n)
    rw [he]
    rw [show (encs rs).length + ((n + 7) / 8 :: bytesOf f n).length = E + (1 + (n + 7) / 8) by rw [List.length_cons, hl, h4]; omega] at hc
    exact hc
  · intro r hr
    rcases List.mem_append.1 hr with hr | hr
    · exact h5 r hr
    · simp at hr
      subst hr
      omega
theorem tjCrash (h : TJ w base d x g n j i f rs) :
    Calls Try.prog 12 #[.pointer (some ⟨d, 0, none⟩), .int .i64 0, .slice none 0 0, .int .i64 (-1), .int .i64 0] w fun e w' => (∃ v, e = .returned v) ∧ TK w' base d x g n i f rs ∧ TM tJ base w w' := by
  obtain ⟨m, st, wv, F, N, S, h1, h2, h3, h4, h5, h6, h7⟩ := h.s
  refine (jCrash F h1.dk rfl rfl h2 (Nat.le_of_lt_succ (Nat.lt_succ_of_le (h1.base_lt)))).mono ?_
  rintro e w' ⟨hv, st', dk, ht⟩
  exact ⟨hv, ⟨⟨m, st', F, N, dk, h3, h5, h6, by omega⟩, h.b.tm ht (by simp) (by simp), h.gb⟩, ht.more (by simp [tJ])⟩
theorem tjOpen {r : List Nat} (h : TK w base d x g n i f (rs ++ [r])) (hi : i ≤ 200) :
    Calls Try.prog 7 #[.pointer (some ⟨d, 0, none⟩), .string (nmOf false)] w fun e w' => rs.length ≤ 10000 ∧ ∃ j X c ua uc, e = .returned (.tuple #[.pointer (some ⟨j, 0, none⟩), .slice (some X) (rs.length + 1) c, .int .i64 0]) ∧ w'.cell? (X.add rs.length) = some (.slice ua r.length uc) ∧ BS w' (.slice ua r.length uc) r ∧ TJ w' base d x g n j i f (rs ++ [r]) ∧ TM tJ base w w' := by
  obtain ⟨m, st, F, N, h1, h3, h5, h6, h7⟩ := h.s
  refine (jOpen h1 rfl (by simp) (.inr ⟨F, N, rfl, by omega, h3⟩) h5 (by omega)).mono ?_
  rintro e w' ⟨j, lv, vals, m', st', wv', fb, rfl, js, hsl, hb, ht⟩
  have hvl : vals.length = (rs ++ [r]).length := by have := hsl.len; omega
  rw [List.length_append, List.length_singleton] at hvl
  have e1 : vals[rs.length]? = some (vals[rs.length]'(by omega)) := List.getElem?_eq_getElem (by omega)
  have hbr := hb rs.length _ r e1 (by simp)
  rcases hsl with ⟨_, h0, _⟩ | ⟨X, c, rfl, _, hc⟩
  · simp at h0
  · obtain ⟨ua, uc, hu⟩ := hbr.shape
    have hcc := hc _ _ e1
    rw [hu] at hcc hbr
    refine ⟨?_, j, X, c, ua, uc, ?_, hcc, hbr, ⟨⟨m', st', wv', _, 1, _, js, rfl, Ct.put _ 1 (Nat.le_refl _), rfl, h5, by omega, by omega⟩, h.b.tm ht (by simp) (by simp), h.gb⟩, ht⟩
    · have h8 := len_encs (rs ++ [r])
      rw [List.length_append] at h8
      omega
    · simp
theorem tjOpen0 {m : Nat} {st : Value} {ms : List Nat} (h : DK w base d 16777216 m (fun _ => none) st ms (.slice none 0 0) []) (hms : ms.length ≤ 1) :
    Calls Try.prog 7 #[.pointer (some ⟨d, 0, none⟩), .string (nmOf false)] w fun e w' => ∃ j lv m st wv F, e = .returned (.tuple #[.pointer (some ⟨j, 0, none⟩), lv, .int .i64 0]) ∧ JS w' base j d F m st wv [] 1 0 0 ∧ F.s = F.n ∧ Ct F.n 1 (encs []) ∧ TM tJ base w w' := by
  refine (jOpen (rs := []) h rfl hms (.inl ⟨rfl, rfl⟩) (fun r hr => by simp at hr) (by simp [encs])).mono ?_
  rintro e w' ⟨j, lv, vals, m', st', wv', fb, rfl, js, hsl, hb, ht⟩
  exact ⟨j, lv, m', st', wv', _, rfl, js, rfl, Ct.put [] 1 (Nat.le_refl _), ht⟩
theorem tjCompact (h : TJ w base d x g n j i f rs) (h1n : 1 ≤ n) (hn : n ≤ 300) {gb : Nat} {u : Value} (hg : Blk w gb #[u] 37) (hu : BS w u (bytesOf f n)) :
    Calls Try.prog 14 #[.pointer (some ⟨j, 0, none⟩), .slice (some ⟨gb, 0, none⟩) 1 1] w fun e w' => e = .returned (.int .i64 0) ∧ TJ w' base d x g n j i f [bytesOf f n] ∧ TM tJ base w w' := by
  obtain ⟨m, st, wv, F, N, S, h1, h2, h3, h4, h5, h6, h7⟩ := h.s
  have hl := len_bytesOf f n
  refine (jCompact h1 hg hu (by omega) (by omega)).mono ?_
  rintro e w' ⟨rfl, ⟨m', st', wv', fb, js⟩, ht⟩
  have hel : (encs [bytesOf f n]).length = 1 + (bytesOf f n).length := by simp [encs]; omega
  refine ⟨rfl, ⟨⟨m', st', wv', _, 1, _, js, rfl, ?_, hel.symm, ?_, by omega, by omega⟩, h.b.tm ht (by simp) (by simp), h.gb⟩, ht⟩
  · have := Ct.put (encs [bytesOf f n]) 1 (Nat.le_refl _)
    rw [hel] at this
    exact this
  · intro r hr
    simp at hr
    subst hr
    omega
end
end Go.Proofs.Ytdlplablojdjlaa
