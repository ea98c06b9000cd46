/- The walk of TopSwarm: what lies in memory between its steps; what is known of the peers; no condition. -/
import Derived.Test.YtfopglaagnbacaaDoorTsA
import Derived.Test.YtfopglaagnbacaaDoorRwT
import Derived.Test.YtfopglaagnbacaaDoorRaD
import Derived.Lib.SmallJoins
import Derived.WideKeyPair
import Derived.ProofKit
import Derived.OpenShut
namespace Go.Proofs.YtfopglaagnbacaaDoor
open Go Go.RowKit Go.ChangeShapes Go.WideShapes Go.ChangeAt Go.Deep

/-- Two numbers as they come in. -/
structure X2 where
  y : Int
  z : Int
def x2V (s : X2) : Value := .agg #[.int .i64 s.y, .int .i64 s.z]
set_option maxRecDepth 100000 in
set_option maxHeartbeats 1000000 in
theorem open_x2 {H : Type} {enc : TypeId × Value → H} {W : World} {base : Nat} {v : Value} {d : DataW H} {p : List MemPlace} (hval : Value.okWide Tryd.prog W .any base 23 v) (hd : DataW.Trod enc Tryd.prog W 0 (fun _ => true) true 23 v d p) :
    ∃ s : X2, v = x2V s ∧ True := by
  have A : Go.WideMaps.ArrKey Tryd.prog 23 3 2 := ⟨Tryd.underlying23, by kernel_rfl, by kernel_rfl, by kernel_rfl⟩
  obtain ⟨c0, c1, rfl⟩ : ∃ c0 c1, v = .agg #[c0, c1] := by
    simp only [Value.okWide, A.hu] at hval
    obtain ⟨cs, h1, h2, _⟩ := hval
    rw [A.size] at h2
    obtain ⟨l⟩ := cs
    match l, h2 with
    | [c0, c1], _ => exact ⟨c0, c1, h1⟩
  obtain ⟨fuel, hf⟩ := hd
  cases fuel with
  | zero => simp [DataW.trod] at hf
  | succ n =>
    rw [DataW.trod_step] at hf
    unfold DataW.trodStep at hf
    simp only [A.hu, Value.cells] at hf
    rw [if_pos (by rw [A.size]; rfl)] at hf
    simp only [Option.map_eq_some_iff] at hf
    obtain ⟨xs, hx, e1⟩ := hf
    rw [show List.range 2 = [0, 1] from rfl, List.mapM_cons, List.mapM_cons, List.mapM_nil] at hx
    simp only [bind, Option.bind_eq_some_iff, pure, Option.some.injEq, A.one] at hx
    obtain ⟨y0, h0, _, ⟨y1, h1, _, rfl, rfl⟩, rfl⟩ := hx
    obtain ⟨a, ea, rfl, wa⟩ := DataW.trod_int Tryd.underlying3 h0
    obtain ⟨b, eb, rfl, wb⟩ := DataW.trod_int Tryd.underlying3 h1
    simp at ea eb
    subst ea; subst eb
    exact ⟨⟨a, b⟩, rfl, trivial⟩

/-- The swarm, the two sets and the list of the law. -/
structure TsI (B0 : Nat) (w : World) (s b M g t tM n : Nat) (y z : Int) (ks : List (Int × Ow)) (L : LB) (T : LT) (h hg : Nat) (F : Nat → Bool) (a ag : Nat) (A : Nat → Bool) (v : Value) (m : Nat) (is : List Int) : Prop where
  sw : SW w s b M g t tM n 30 y z 5 ks T
  e : mapV Ow.f ks = L
  xh : BSet w h hg n F
  xa : BSet w a ag n A
  ids : w.ownsRow B0 3 1 v m (intL is)
  ap : ∀ i, SWb s b M g t tM ks i → B0 ≤ i ∧ i ≠ h ∧ i ≠ hg ∧ i ≠ a ∧ i ≠ ag ∧ v.ownBlock ≠ some i
  ao : (B0 ≤ h ∧ B0 ≤ hg ∧ B0 ≤ a ∧ B0 ≤ ag) ∧ v.ownBlock ≠ some h ∧ v.ownBlock ≠ some hg ∧ v.ownBlock ≠ some a ∧ v.ownBlock ≠ some ag
  ne : h ≠ ag ∧ hg ≠ a ∧ hg ≠ ag
  tab : TabW w
  gt : gTab < B0
/-- The blocks of all of these. -/
def TsB (s b M g t tM : Nat) (ks : List (Int × Ow)) (h hg a ag : Nat) (v : Value) (i : Nat) : Prop := SWb s b M g t tM ks i ∨ i = h ∨ i = hg ∨ i = a ∨ i = ag ∨ v.ownBlock = some i
theorem owns_mod2 {S : Nat → Prop} {w w' : World} {base : Nat} {e : TypeId} {size : Nat} {v : Value} {n : Nat} {xs : List Value} (h : w.ownsRow base e size v n xs) (hm : Mod S w w') (hS : ∀ i, v.ownBlock = some i → ¬ S i) : w'.ownsRow base e size v n xs := by
  obtain ⟨h1, h2⟩ := h
  rcases h2 with h2 | ⟨g, cap, cur, hv, hb, hh, rest⟩
  · exact ⟨h1, .inl h2⟩
  · exact ⟨h1, .inr ⟨g, cap, cur, hv, hb, (show Blk w g cur e from hh).mod hm (hS g (by rw [hv]; rfl)), rest⟩⟩
section
variable {B0 : Nat} {w w' : World} {s b M g t tM n : Nat} {y z : Int} {ks : List (Int × Ow)} {L : LB} {T : LT} {h hg : Nat} {F : Nat → Bool} {a ag : Nat} {A : Nat → Bool} {v : Value} {m : Nat} {is : List Int}
theorem TsI.lt (H : TsI B0 w s b M g t tM n y z ks L T h hg F a ag A v m is) {i : Nat} (hi : TsB s b M g t tM ks h hg a ag v i) : B0 ≤ i ∧ i < w.heap.size := by
  rcases hi with hi | rfl | rfl | rfl | rfl | hi
  · exact ⟨(H.ap i hi).1, H.sw.lt hi⟩
  · exact ⟨H.ao.1.1, H.xh.lt.1⟩
  · exact ⟨H.ao.1.2.1, H.xh.lt.2⟩
  · exact ⟨H.ao.1.2.2.1, H.xa.lt.1⟩
  · exact ⟨H.ao.1.2.2.2, H.xa.lt.2⟩
  · exact H.ids.lt i hi
theorem TsI.mod {S : Nat → Prop} (H : TsI B0 w s b M g t tM n y z ks L T h hg F a ag A v m is) (hm : Mod S w w') (hS : ∀ i, TsB s b M g t tM ks h hg a ag v i → ¬ S i) (hT : ¬ S gTab) : TsI B0 w' s b M g t tM n y z ks L T h hg F a ag A v m is :=
  ⟨H.sw.mod hm fun i hi => hS i (.inl hi), H.e, H.xh.mod hm (hS _ (.inr (.inl rfl))) (hS _ (.inr (.inr (.inl rfl)))), H.xa.mod hm (hS _ (.inr (.inr (.inr (.inl rfl))))) (hS _ (.inr (.inr (.inr (.inr (.inl rfl)))))),
    owns_mod2 H.ids hm fun i hi => hS i (.inr (.inr (.inr (.inr (.inr hi))))), H.ap, H.ao, H.ne, H.tab.mod hm hT, H.gt⟩
theorem TsI.new (H : TsI B0 w s b M g t tM n y z ks L T h hg F a ag A v m is) (hm : Mod (fun _ => False) w w') : TsI B0 w' s b M g t tM n y z ks L T h hg F a ag A v m is := H.mod hm (fun _ _ e => e) fun e => e
theorem TsI.step {L1 : LB} {T1 : LT} (H : TsI B0 w s b M g t tM n y z ks L T h hg F a ag A v m is) (hs : StS s b M g t tM n 30 y z 5 ks L1 T1 w w') : (∃ k1, TsI B0 w' s b M g t tM n y z k1 L1 T1 h hg F a ag A v m is) ∧ Mod (fun i => B0 ≤ i) w w' := by
  obtain ⟨k1, h1, e1, hm, hn⟩ := hs
  refine ⟨⟨k1, h1, e1, H.xh.mod hm (fun e => (H.ap _ e).2.1 rfl) (fun e => (H.ap _ e).2.2.1 rfl), H.xa.mod hm (fun e => (H.ap _ e).2.2.2.1 rfl) (fun e => (H.ap _ e).2.2.2.2.1 rfl), owns_mod2 H.ids hm fun i hi e => (H.ap _ e).2.2.2.2.2 hi, fun i hi => ?_, H.ao, H.ne, H.tab.mod hm (fun e => by have := (H.ap _ e).1; have := H.gt; omega), H.gt⟩, hm.mono fun i _ e => (H.ap i e).1⟩
  rcases hn i hi with e | e
  · exact H.ap i e
  · have hsz : B0 ≤ w.heap.size := Nat.le_trans H.ao.1.1 (Nat.le_of_lt H.xh.lt.1)
    have l1 := H.xh.lt
    have l2 := H.xa.lt
    exact ⟨by omega, by omega, by omega, by omega, by omega, fun hv => by have := (H.ids.lt i hv).2; omega⟩
theorem TsI.tmod {T1 : LT} (H : TsI B0 w s b M g t tM n y z ks L T h hg F a ag A v m is) (ht : Fl.TB w' t tM y z 5 T1) (hm : Mod (· = tM) w w') : TsI B0 w' s b M g t tM n y z ks L T1 h hg F a ag A v m is := by
  have hap := H.ap tM (.inr (.inr (.inr rfl)))
  exact ⟨H.sw.tmod ht hm, H.e, H.xh.mod hm (fun e => hap.2.1 e.symm) (fun e => hap.2.2.1 e.symm), H.xa.mod hm (fun e => hap.2.2.2.1 e.symm) (fun e => hap.2.2.2.2.1 e.symm), owns_mod2 H.ids hm (fun i hi e => hap.2.2.2.2.2 (by rw [← e]; exact hi)), H.ap, H.ao, H.ne, H.tab.mod hm (fun e => by have := hap.1; have := H.gt; omega), H.gt⟩
theorem TsI.hput {F1 : Nat → Bool} (H : TsI B0 w s b M g t tM n y z ks L T h hg F a ag A v m is) (hx : BSet w' h hg n F1) (hm : Mod (· = hg) w w') : TsI B0 w' s b M g t tM n y z ks L T h hg F1 a ag A v m is :=
  ⟨H.sw.mod hm fun i hi e => (H.ap i hi).2.2.1 e, H.e, hx, H.xa.mod hm (fun e => H.ne.2.1 e.symm) (fun e => H.ne.2.2 e.symm), owns_mod2 H.ids hm (fun i hi e => H.ao.2.2.1 (by rw [← e]; exact hi)), H.ap, H.ao, H.ne, H.tab.mod hm (fun e => by have := H.ao.1; have := H.gt; omega), H.gt⟩
theorem TsI.aput {A1 : Nat → Bool} (H : TsI B0 w s b M g t tM n y z ks L T h hg F a ag A v m is) (hx : BSet w' a ag n A1) (hm : Mod (· = ag) w w') : TsI B0 w' s b M g t tM n y z ks L T h hg F a ag A1 v m is :=
  ⟨H.sw.mod hm fun i hi e => (H.ap i hi).2.2.2.2.1 e, H.e, H.xh.mod hm (fun e => H.ne.1 e) (fun e => H.ne.2.2 e), hx, owns_mod2 H.ids hm (fun i hi e => H.ao.2.2.2.2 (by rw [← e]; exact hi)), H.ap, H.ao, H.ne, H.tab.mod hm (fun e => by have := H.ao.1; have := H.gt; omega), H.gt⟩
theorem TsI.app {v' : Value} {B : Nat} {js : List Int} (H : TsI B0 w s b M g t tM n y z ks L T h hg F a ag A v m is) (ho : w'.ownsRow B0 3 1 v' (m + 1) (intL js)) (hm : Mod (fun i => v.ownBlock = some i) w w') (hB : w.heap.size ≤ B) (hv : v'.ownBlock = v.ownBlock ∨ v'.ownBlock = some B) : TsI B0 w' s b M g t tM n y z ks L T h hg F a ag A v' (m + 1) js := by
  have key : ∀ i, i < w.heap.size → v.ownBlock ≠ some i → v'.ownBlock ≠ some i := fun i hi hne e => by
    rcases hv with hv | hv
    · exact hne (hv ▸ e)
    · rw [hv] at e; cases e; omega
  have l1 := H.xh.lt
  have l2 := H.xa.lt
  refine ⟨H.sw.mod hm fun i hi => (H.ap i hi).2.2.2.2.2, H.e, H.xh.mod hm H.ao.2.1 H.ao.2.2.1, H.xa.mod hm H.ao.2.2.2.1 H.ao.2.2.2.2, ho, fun i hi => ?_, ⟨H.ao.1, key _ l1.1 H.ao.2.1, key _ l1.2 H.ao.2.2.1, key _ l2.1 H.ao.2.2.2.1, key _ l2.2 H.ao.2.2.2.2⟩, H.ne, H.tab.mod hm (fun e => by have := (H.ids.lt _ e).1; have := H.gt; omega), H.gt⟩
  obtain ⟨h1, h2, h3, h4, h5, h6⟩ := H.ap i hi
  exact ⟨h1, h2, h3, h4, h5, key i (H.sw.lt hi) h6⟩
end

/-- What was there, and what a peer has below k. -/
def orA (A f : Nat → Bool) (k : Nat) : Nat → Bool := fun x => A x || (decide (x < k) && f x)
theorem orA_zero (A f : Nat → Bool) : orA A f 0 = A := by funext x; simp [orA]
theorem orA_yes {A f : Nat → Bool} {k : Nat} (h : f k = true) : fil (orA A f k) k (k + 1) true = orA A f (k + 1) := by
  funext x
  unfold fil orA
  by_cases e : k ≤ x ∧ x < k + 1
  · obtain rfl : x = k := by omega
    rw [if_pos e, h]
    simp
  · rw [if_neg e]
    by_cases e2 : x < k
    · simp [e2, show x < k + 1 by omega]
    · simp [e2, show ¬ x < k + 1 by omega]
theorem orA_no {A f : Nat → Bool} {k : Nat} (h : f k = false) : orA A f k = orA A f (k + 1) := by
  funext x
  unfold orA
  by_cases e : x = k
  · subst e; simp [h]
  · by_cases e2 : x < k
    · simp [e2, show x < k + 1 by omega]
    · simp [e2, show ¬ x < k + 1 by omega]
theorem orA_all {A f : Nat → Bool} {k : Nat} (h : ∀ x, k ≤ x → f x = false) : orA A f k = fun x => A x || f x := by
  funext x
  unfold orA
  by_cases e : x < k
  · simp [e]
  · simp [e, h x (by omega)]
/-- The numbers of the first peers. -/
def idsL (i : Nat) : List Int := (List.range i).map fun k : Nat => ((k : Int) + 1)
theorem idsL_zero : idsL 0 = [] := rfl
theorem idsL_snoc (i : Nat) : idsL (i + 1) = idsL i ++ [(i : Int) + 1] := by unfold idsL; rw [List.range_succ, List.map_append]; rfl
theorem idsL_mem {i : Nat} {p : Int} (h : 1 ≤ p ∧ p ≤ i) : p ∈ idsL i := List.mem_map.2 ⟨(p - 1).toNat, List.mem_range.2 (by omega), by omega⟩
/-- What is known of the first peers. -/
structure PeP (i : Nat) (L : LB) (A : Nat → Bool) : Prop where
  rise : Rising L
  len : L.length ≤ i
  rng : ∀ q ∈ L, 1 ≤ q.1 ∧ q.1 ≤ i
  all : AllP L A
theorem PeP.zero : PeP 0 [] (fun _ => false) := ⟨List.Pairwise.nil, Nat.le_refl _, fun q hq => by simp at hq, fun k => by simp⟩
theorem PeP.step {i : Nat} {L : LB} {A : Nat → Bool} (h : PeP i L A) (f : Nat → Bool) : PeP (i + 1) (putL L ((i : Int) + 1) f) (fun x => A x || f x) := by
  have hno : ∀ q ∈ L, q.1 ≠ (i : Int) + 1 := fun q hq => by have := h.rng q hq; omega
  have hr := rising_put h.rise ((i : Int) + 1) f
  refine ⟨hr, ?_, fun q hq => ?_, fun k => ?_⟩
  · have := len_putO L ((i : Int) + 1) f
    have := h.len
    omega
  · rcases mem_putO hq with e | e
    · rw [e]; dsimp only; omega
    · have := h.rng q e; omega
  · rw [Bool.or_eq_true]
    constructor
    · rintro (hk | hk)
      · obtain ⟨q, hq, hqk⟩ := (h.all k).1 hk
        have : lkL (putL L ((i : Int) + 1) f) q.1 = some q.2 := by rw [lk_put, if_neg (hno q hq)]; exact lk_of_mem h.rise hq
        exact ⟨_, lk_some_mem this, hqk⟩
      · have : lkL (putL L ((i : Int) + 1) f) ((i : Int) + 1) = some f := by rw [lk_put, if_pos rfl]
        exact ⟨_, lk_some_mem this, hk⟩
    · rintro ⟨q, hq, hqk⟩
      rcases mem_putO hq with e | e
      · rw [e] at hqk; exact .inr hqk
      · exact .inl ((h.all k).2 ⟨q, e, hqk⟩)
theorem PeP.rngL {i : Nat} {L : LB} {A : Nat → Bool} (h : PeP i L A) (hi : i ≤ 20) : RngL L := fun q hq => by have := h.rng q hq; omega
theorem PeP.okB {i : Nat} {L : LB} {A : Nat → Bool} (h : PeP i L A) (hi : i ≤ 20) : OkB 30 L := ⟨h.rise, by have := h.len; omega, fun q hq => by have := h.rng q hq; exact Fl.i64_of (by omega) (by omega)⟩
theorem PeP.may {i : Nat} {L : LB} {A : Nat → Bool} (h : PeP i L A) : ∀ q ∈ L, q.1 ∈ idsL i := fun q hq => idsL_mem (h.rng q hq)
theorem PeP.set {i n : Nat} {L : LB} {A : Nat → Bool} (h : PeP i L A) (hi : i < 20) (f : Nat → Bool) : setA n 30 L ((i : Int) + 1) (some (n, f)) = (0, putL L ((i : Int) + 1) f) := by
  unfold setA
  dsimp only
  rw [if_pos ⟨by omega, rfl⟩, if_pos (.inr (by have := h.len; omega))]
theorem Sl.ex {w w' : World} {v : Value} {size n : Nat} {xs : List Value} (h : Sl w v size n xs) (hx : Ex w w') : Sl w' v size n xs := h.keep fun _ _ hp _ => hx.cell hp
/-- A source of numbers. -/
theorem srcNext (x : Int) (sd : Nat) (w : World) (h : Blk w sd #[.int .u64 x] 62) :
    Calls Tryd.prog 10 #[.pointer (some ⟨sd, 0, none⟩)] w fun e w' => ∃ u x' : Int, e = .returned (.int .u64 u) ∧ Blk w' sd #[.int .u64 x'] 62 ∧ Mod (· = sd) w w' := by
  refine (drawNext x sd w (h.cell 0) (h.frozen 0)).mono ?_
  rintro e w' ⟨rfl, rfl⟩
  exact ⟨_, _, rfl, h.set 0 _, (Mod.refl (· = sd) w).setCell (p := ⟨sd, 0, none⟩) (.inl rfl) _⟩
/-- What a round asks for, and what comes of it. -/
theorem row_at {OUT : LT} {j : Nat} {x : Int} {r : Fl.Rq} (h : OUT[j]? = some (x, r)) : OUT.drop j = (x, r) :: OUT.drop (j + 1) ∧ keysL (OUT.take (j + 1)) = keysL (OUT.take j) ++ [x] := by
  have hl := (List.getElem?_eq_some_iff.1 h).1
  refine ⟨by rw [List.drop_eq_getElem_cons hl, (List.getElem?_eq_some_iff.1 h).2], ?_⟩
  rw [List.take_add_one, h]
  exact keysL_snoc _ _
theorem row_new {OUT : LT} {j : Nat} {x : Int} {r : Fl.Rq} (h : OUT[j]? = some (x, r)) (hn : (keysL OUT).Nodup) : ¬ x ∈ keysL (OUT.take j) := fun hm => by
  obtain ⟨h1, _⟩ := row_at h
  rw [← List.take_append_drop j OUT, h1] at hn
  unfold keysL at hn hm
  rw [List.map_append, List.map_cons] at hn
  exact (List.nodup_append.1 hn).2.2 _ hm _ (List.mem_cons_self ..) rfl
theorem MoreP.not {F F' : Nat → Bool} {l : List Int} (h : MoreP F l F') {x : Nat} (h1 : F x = false) (h2 : ¬ (x : Int) ∈ l) : F' x = false := by
  cases e : F' x with
  | false => rfl
  | true =>
    rcases (h x).1 e with e1 | e1
    · rw [h1] at e1; cases e1
    · exact absurd e1 h2
theorem overA_row {T : LT} {x : Int} {r : Fl.Rq} (h : lkL T x = some r) : overA T r.p x = true ∧ overT T r.p x = delL T x := by
  have : overA T r.p x = true := by unfold overA; rw [h]; simp
  exact ⟨this, by unfold overT; rw [if_pos this]⟩
end Go.Proofs.YtfopglaagnbacaaDoor
