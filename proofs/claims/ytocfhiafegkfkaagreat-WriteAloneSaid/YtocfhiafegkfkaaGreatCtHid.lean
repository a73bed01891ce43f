/- Contracts of functions of an object that is hidden, and a memory: how they are lifted. -/
import Derived.Test.YtocfhiafegkfkaaGreatCtObj
import Derived.Test.YtocfhiafegkfkaaGreatEvHid
namespace Go.Proofs.YtocfhiafegkfkaaGreat.Ct
open Go Go.Proofs Go.Proofs.YtocfhiafegkfkaaGreat.Ev
open Go.RowKit

abbrev HF : Type := Nat → Hid → Option HB
def hidO (F : HF) (N : Nat) (h : Hid) : List (Nat × Blk) := optL F (rng 0 N) h (rng 0 N) 0
def hidHp (F : HF) (N : Nat) (h : Hid) (m : Mm) : Hp := ⟨hidO F N h ++ [(N, .cells (m.cells (N + 1)) memT), (N + 1, .ints .u64 m.w u64T)], N + 2, []⟩
def hidN (N : Nat) : List Nat := 0 :: rng (N + 2) (N - 1)
/-- What a call leaves: but for the first one, its blocks go by new names. -/
def hidOut (F : HF) (N : Nat) (h : Hid) (m : Mm) : Hp := ⟨optL F (hidN N) h (hidN N) 0 ++ [(N, .cells (m.cells (N + 1)) memT), (N + 1, .ints .u64 m.w u64T)], N + 2 + (N - 1), []⟩
abbrev hidA (N : Nat) (rest : List Value) : List Value := pt0 :: .pointer (some ⟨N, 0, none⟩) :: rest
def headB (k : Nat) : List Nat → Bool
  | [] => false
  | n :: _ => Nat.beq n k
/-- That what stands under some names is what a hidden object says. -/
def isHid (F : HF) (ns : List Nat) (h : Hid) (bs : List Blk) : Prop := bs = bl F ns h ns 0
def gHid (F : HF) (N : Nat) (ret : Hid → Mm → List Value → Value) (st : Hid → Mm → List Value → Hid) (me : Hid → Mm → List Value → Mm) (pre : Hid → Mm → List Value → Prop) (args : List Value) (hp : Hp) : Option (Value × Hp × List Prop) :=
  match args with
  | .pointer (some ⟨k, 0, none⟩) :: .pointer (some ⟨mk, 0, none⟩) :: rest => match hp.get k, memOf hp mk with
    | some (.opt ns _ h), some (wn, m) => match pickB hp ns with
      | some bs => bif nodupB (ns ++ [mk, wn]) && (Nat.beq ns.length N && (headB k ns && noNm rest)) then
          some (ret h m rest, ⟨optL F (k :: rng hp.next (N - 1)) (st h m rest) (k :: rng hp.next (N - 1)) 0 ++ ((mk, .cells ((me h m rest).cells wn) memT) :: (wn, .ints .u64 (me h m rest).w u64T) :: delB (ns ++ (mk :: wn :: rng hp.next (N - 1))) hp.blks), hp.next + (N - 1), ns ++ mk :: wn :: hp.log⟩, [isHid F ns h bs, pre h m rest])
        else none
      | none => none
    | _, _ => none
  | _ => none
theorem upTo_lt {n : Nat} : ∀ {m : Nat}, n ∈ upTo m → n < m
  | 0, h => by cases h
  | m + 1, h => by
    simp only [upTo, List.mem_cons] at h
    rcases h with rfl | h
    · omega
    · have := upTo_lt h
      omega
theorem look_none {n : Nat} : ∀ {l : List (Nat × Blk)}, n ∉ keys l → lookB n l = none
  | [], _ => rfl
  | (m, b) :: r, h => by
    simp only [keys, List.mem_cons, not_or] at h
    simp only [lookB]
    cases hm : Nat.beq m n
    · exact look_none h.2
    · exact absurd (beq_nat hm).symm h.1
theorem hid_keys (F : HF) (N : Nat) (h : Hid) (m : Mm) : keys (hidHp F N h m).blks = rng 0 (N + 2) := by
  show keys (hidO F N h ++ _) = _
  rw [keys_app, hidO, optL_keys, ← rng_app N 0 2, Nat.zero_add]
  rfl
theorem mapN_app (σ : Nat → Nat) (a b : List Nat) : mapN σ (a ++ b) = mapN σ a ++ mapN σ b := by simp only [mapN_eq, List.map_append]
/-- What the own names come to. -/
theorem hid_map {ns : List Nat} {mk wn N nx : Nat} (hl : ns.length = N) : mapN (ext (ns ++ [mk, wn]) (N + 2) nx) (rng 0 N) = ns ∧ ext (ns ++ [mk, wn]) (N + 2) nx N = mk ∧ ext (ns ++ [mk, wn]) (N + 2) nx (N + 1) = wn := by
  have h0 : ∀ k, k < N + 2 → ext (ns ++ [mk, wn]) (N + 2) nx k = (ns ++ [mk, wn]).getD k 0 := fun k hk => ext_old hk
  refine ⟨?_, ?_, ?_⟩
  · rw [mapN_eq]
    apply List.ext_getElem?
    intro i
    rw [List.getElem?_map]
    by_cases hi : i < N
    · rw [rng_get hi, Nat.zero_add, Option.map_some, h0 i (by omega), List.getD_eq_getElem?_getD, List.getElem?_append_left (by omega), List.getElem?_eq_getElem (by omega)]
      rfl
    · rw [List.getElem?_eq_none (by rw [rng_length]; omega), List.getElem?_eq_none (by omega)]
      rfl
  · rw [h0 N (by omega), List.getD_eq_getElem?_getD, List.getElem?_append_right (by omega), hl, Nat.sub_self]
    rfl
  · rw [h0 (N + 1) (by omega), List.getD_eq_getElem?_getD, List.getElem?_append_right (by omega), hl, Nat.add_sub_cancel_left]
    rfl
theorem hid_bnd {F : HF} {N : Nat} {h : Hid} {m : Mm} {args : List Value} (ha : ∀ k ∈ nmL args, k < N + 2) : allLt (N + 2) (tellers args (hidHp F N h m)) = true := by
  refine allLt_of fun n hn => ?_
  simp only [tellers, hidHp, hidO, tellB_app, List.mem_append] at hn
  rcases hn with hn | hn | hn
  · exact ha n hn
  · have : n ∈ rng 0 N := by rcases tellB_opt hn with h | h <;> exact h
    have := rng_mem.1 this
    omega
  · simp [tellers.tellB, Blk.nm, Mm.cells, Cfg.cells, Tc.cells, nmL, nm] at hn
    omega
theorem hid_tell {F : HF} {N : Nat} {h : Hid} {m : Mm} {args : List Value} : allHas (tellers args (hidHp F N h m)) (upTo (N + 2)) = true := by
  refine allHas_of fun n hn => ?_
  have := upTo_lt hn
  simp only [tellers, hidHp, hidO, tellB_app, List.mem_append]
  by_cases hl : n < N
  · exact .inr (.inl (opt_tellB (rng_mem.2 ⟨Nat.zero_le _, by omega⟩)))
  · refine .inr (.inr ?_)
    simp [tellers.tellB]
    omega
theorem hid_opts {F : HF} {N : Nat} {h : Hid} {m : Mm} : optsB (keys (hidHp F N h m).blks) (hidHp F N h m).blks = true := by
  rw [hid_keys]
  refine optsB_opt (fun x hx => ?_) rfl _ _
  have := rng_mem.1 hx
  exact rng_mem.2 ⟨Nat.zero_le _, by omega⟩
theorem hid_keysIn {F : HF} {N : Nat} {h : Hid} {m : Mm} : keysIn (N + 2) (hidHp F N h m).blks = true := by
  refine keysIn_of (fun n hn => ?_) ?_
  · rw [hid_keys] at hn
    have := rng_mem.1 hn
    omega
  · rw [hid_keys]
    exact nodup_rng _ _
theorem gHid_ok {F : HF} {N : Nat} {ret : Hid → Mm → List Value → Value} {st : Hid → Mm → List Value → Hid} {me : Hid → Mm → List Value → Mm} {pre : Hid → Mm → List Value → Prop} {f : FuncId} (hent : Enters Tryz.prog f) (hret : ∀ s m rest, nm (ret s m rest) = [])
    (hC : ∀ h m rest, pre h m rest → CallC Tryz.prog f (hidA N rest) (hidHp F N h m) (ret h m rest) (hidOut F N (st h m rest) (me h m rest))) :
    ∀ args hp v hp' pc, gHid F N ret st me pre args hp = some (v, hp', pc) → ∀ ds, CallOk Tryz.prog f args hp ⟨v, hp', ds, pc⟩ := by
  intro args hp v hp' pc hg ds
  unfold gHid at hg
  split at hg
  · rename_i k mk rest
    split at hg
    · rename_i ns f' h wn m hk hm
      split at hg
      · rename_i bs hbs
        cases hcd : (nodupB (ns ++ [mk, wn]) && (Nat.beq ns.length N && (headB k ns && noNm rest)))
        · simp [hcd] at hg
        simp only [hcd, cond_true, Option.some.injEq, Prod.mk.injEq] at hg
        obtain ⟨rfl, rfl, rfl⟩ := hg
        simp only [Bool.and_eq_true] at hcd
        obtain ⟨hnd, hlen, hhd, hrest⟩ := hcd
        have hl : ns.length = N := beq_nat hlen
        have hx : nmL rest = [] := List.isEmpty_iff.1 hrest
        obtain ⟨h1, h2, h3⟩ := memOf_some hm
        by_cases hc : isHid F ns h bs ∧ pre h m rest
        · obtain ⟨hbl, hpre⟩ := hc
          have hC' := hC h m rest hpre
          obtain ⟨m1, m2, m3⟩ := hid_map (mk := mk) (wn := wn) (nx := hp.next) hl
          have hget := pickB_get (show pickB hp ns = some (bl F ns h ns 0) from by rw [hbs, hbl])
          have hN : 0 < N := by
            cases ns with
            | nil => cases hhd
            | cons _ _ => rw [← hl]; exact Nat.succ_pos _
          have hk0 : ext (ns ++ [mk, wn]) (N + 2) hp.next 0 = k := by
            rw [ext_old (by omega)]
            cases ns with
            | nil => cases hhd
            | cons n r => exact beq_nat hhd
          have hl2 := CallC.lift hent (pc := [isHid F ns h bs, pre h m rest]) (fun _ => hC') (ns ++ [mk, wn]) (rng 0 (N + 2 + (N - 1))) (Nat.le_add_right _ _) hid_keysIn
            (hid_bnd fun j hj => by
              simp only [nmL, nm, hx, List.append_nil, List.mem_cons, List.mem_append, List.not_mem_nil, or_false] at hj
              omega) hid_tell hnd (by show (ns ++ [mk, wn]).length = N + 2; simp [hl])
            (samesIn_all fun n hn => by
              rw [hid_keys] at hn
              have := rng_mem.1 hn
              exact rng_mem.2 ⟨Nat.zero_le _, by omega⟩) (hp := hp) (args := .pointer (some ⟨k, 0, none⟩) :: .pointer (some ⟨mk, 0, none⟩) :: rest)
            (by
              show _ = rnL (ext (ns ++ [mk, wn]) (N + 2) hp.next) (hidA N rest)
              simp only [rnL, rnL_none rest hx, rn, hk0, m2])
            (by
              refine laysIn_app (laysIn_opt fun j n hj => ?_) ⟨?_, ?_, trivial⟩
              · show hp.get (ext (ns ++ [mk, wn]) (N + 2) hp.next n) = some (.opt (mapN (ext (ns ++ [mk, wn]) (N + 2) hp.next) (rng 0 N)) (F (0 + j)) h)
                have hjN : j < N := by have := (List.getElem?_eq_some_iff.1 hj).1; rw [rng_length] at this; exact this
                rw [rng_get hjN, Nat.zero_add, Option.some.injEq] at hj
                subst hj
                rw [m1, ext_old (by omega), Nat.zero_add]
                have := hget j (ns.getD j 0) (by rw [List.getD_eq_getElem?_getD, List.getElem?_eq_getElem (by omega)]; rfl)
                rw [Nat.zero_add] at this
                rw [← this]
                congr 1
                rw [List.getD_eq_getElem?_getD, List.getD_eq_getElem?_getD, List.getElem?_append_left (by omega)]
              · show hp.get (ext (ns ++ [mk, wn]) (N + 2) hp.next N) = some (.cells (m.cells (ext (ns ++ [mk, wn]) (N + 2) hp.next (N + 1))) memT)
                rw [m2, m3]
                exact h1
              · show hp.get (ext (ns ++ [mk, wn]) (N + 2) hp.next (N + 1)) = some (.ints .u64 m.w u64T)
                rw [m3]
                exact h2) ds hid_opts
          rw [rn_none _ (hret h m rest)] at hl2
          have e : hp.lay (ns ++ [mk, wn]) (hidHp F N h m).next (hidOut F N (st h m rest) (me h m rest)) (rng 0 (N + 2 + (N - 1))) = ⟨optL F (k :: rng hp.next (N - 1)) (st h m rest) (k :: rng hp.next (N - 1)) 0 ++ ((mk, .cells ((me h m rest).cells wn) memT) :: (wn, .ints .u64 (me h m rest).w u64T) :: delB (ns ++ (mk :: wn :: rng hp.next (N - 1))) hp.blks), hp.next + (N - 1), ns ++ mk :: wn :: hp.log⟩ := by
            have hnew : ∀ (n a : Nat), mapN (ext (ns ++ [mk, wn]) (N + 2) hp.next) (rng (N + 2 + a) n) = rng (hp.next + a) n := fun n => by
              induction n with
              | zero => intro a; rfl
              | succ n ih =>
                intro a
                have e1 : ext (ns ++ [mk, wn]) (N + 2) hp.next (N + 2 + a) = hp.next + a := by rw [ext_new (by omega)]; omega
                simp only [rng, mapN, e1]
                rw [show N + 2 + a + 1 = N + 2 + (a + 1) by omega, ih (a + 1), Nat.add_assoc]
            have hnew0 : mapN (ext (ns ++ [mk, wn]) (N + 2) hp.next) (rng (N + 2) (N - 1)) = rng hp.next (N - 1) := hnew (N - 1) 0
            have hmap : mapN (ext (ns ++ [mk, wn]) (N + 2) hp.next) (rng 0 (N + 2)) = ns ++ [mk, wn] := by
              rw [← rng_app N 0 2, Nat.zero_add, mapN_app, m1]
              show ns ++ [ext (ns ++ [mk, wn]) (N + 2) hp.next N, ext (ns ++ [mk, wn]) (N + 2) hp.next (N + 1)] = _
              rw [m2, m3]
            have hwr : mapN (ext (ns ++ [mk, wn]) (N + 2) hp.next) (rng 0 (N + 2 + (N - 1))) = ns ++ (mk :: wn :: rng hp.next (N - 1)) := by
              rw [← rng_app (N + 2) 0 (N - 1), Nat.zero_add, mapN_app, hmap, hnew0, List.append_assoc]
              rfl
            have hN' : mapN (ext (ns ++ [mk, wn]) (N + 2) hp.next) (hidN N) = k :: rng hp.next (N - 1) := by
              simp only [hidN, mapN, hk0, hnew0]
            show (⟨layB (ext (ns ++ [mk, wn]) (N + 2) hp.next) (pick' (rng 0 (N + 2 + (N - 1))) (hidOut F N (st h m rest) (me h m rest)).blks) ++ delB (mapN (ext (ns ++ [mk, wn]) (N + 2) hp.next) (rng 0 (N + 2 + (N - 1)))) hp.blks, hp.next + (N + 2 + (N - 1) - (N + 2)), mapN (ext (ns ++ [mk, wn]) (N + 2) hp.next) (below (N + 2) (rng 0 (N + 2 + (N - 1)))) ++ hp.log⟩ : Hp) = _
            rw [pick_all (fun n hn => by
              have hn' : n ∈ hidN N ++ [N, N + 1] := by
                have : keys (hidOut F N (st h m rest) (me h m rest)).blks = hidN N ++ [N, N + 1] := by
                  show keys (optL F (hidN N) (st h m rest) (hidN N) 0 ++ _) = _
                  rw [keys_app, optL_keys]
                  rfl
                rw [this] at hn
                exact hn
              simp only [hidN, List.cons_append, List.mem_cons, List.mem_append, List.not_mem_nil, or_false] at hn'
              refine rng_mem.2 ⟨Nat.zero_le _, ?_⟩
              rcases hn' with h | h | h | h
              · omega
              · have := rng_mem.1 h
                omega
              · omega
              · omega), below_rng3 (Nat.zero_add _), hmap, hwr]
            show (⟨layB (ext (ns ++ [mk, wn]) (N + 2) hp.next) (optL F (hidN N) (st h m rest) (hidN N) 0 ++ [(N, .cells ((me h m rest).cells (N + 1)) memT), (N + 1, .ints .u64 (me h m rest).w u64T)]) ++ delB (ns ++ (mk :: wn :: rng hp.next (N - 1))) hp.blks, hp.next + (N + 2 + (N - 1) - (N + 2)), (ns ++ [mk, wn]) ++ hp.log⟩ : Hp) = _
            rw [layB_app, optL_lay, hN']
            show (⟨(optL F (k :: rng hp.next (N - 1)) (st h m rest) (k :: rng hp.next (N - 1)) 0 ++ [(ext (ns ++ [mk, wn]) (N + 2) hp.next N, .cells ((me h m rest).cells (ext (ns ++ [mk, wn]) (N + 2) hp.next (N + 1))) memT), (ext (ns ++ [mk, wn]) (N + 2) hp.next (N + 1), .ints .u64 (me h m rest).w u64T)]) ++ delB (ns ++ (mk :: wn :: rng hp.next (N - 1))) hp.blks, hp.next + (N + 2 + (N - 1) - (N + 2)), (ns ++ [mk, wn]) ++ hp.log⟩ : Hp) = _
            rw [m2, m3, Nat.add_sub_cancel_left]
            simp only [List.append_assoc, List.cons_append, List.nil_append]
          rw [e] at hl2
          exact hl2
        · refine ⟨⟨Nat.le_add_right _ _, fun x _ hxm => List.mem_append.2 (.inr (List.mem_cons_of_mem _ (List.mem_cons_of_mem _ hxm))), fun n hnx hnl => ?_⟩, hent, fun hpc => absurd ⟨hpc _ (by simp), hpc _ (by simp)⟩ hc⟩
          show lookB n (_ ++ _) = lookB n hp.blks
          simp only [List.mem_append, List.mem_cons, not_or] at hnl
          obtain ⟨q1, q2, q3, _⟩ := hnl
          have nb : ∀ a : Nat, n ≠ a → Nat.beq a n = false := fun a ha => by
            cases e : Nat.beq a n
            · rfl
            · exact absurd (beq_nat e).symm ha
          have q5 : n ∉ rng hp.next (N - 1) := fun h => by
            have := (rng_mem.1 h).1
            omega
          have q4 : has n (ns ++ (mk :: wn :: rng hp.next (N - 1))) = false := by
            cases e : has n (ns ++ (mk :: wn :: rng hp.next (N - 1)))
            · rfl
            · have := has_iff.1 e
              simp only [List.mem_append, List.mem_cons] at this
              rcases this with h | h | h | h
              · exact absurd h q1
              · exact absurd h q2
              · exact absurd h q3
              · exact absurd h q5
          have q6 : n ≠ k := fun e => q1 (by
            cases ns with
            | nil => cases hhd
            | cons x r => rw [e, ← beq_nat hhd]; exact List.mem_cons_self)
          rw [lookB_app, look_none (by
            rw [optL_keys]
            simp only [List.mem_cons, not_or]
            exact ⟨q6, q5⟩), Option.none_or]
          simp only [lookB, nb mk q2, nb wn q3, cond_false, lookB_del, q4]
          rfl
      · cases hg
    · cases hg
  · cases hg
/-- What is left under the old names is left under new ones. -/
theorem hid_out {P : Program} {f : FuncId} {args : List Value} {F : HF} {N : Nat} {h h' : Hid} {m m' : Mm} {v : Value} (hN : 0 < N) (hv : nm v = []) (hC : CallC P f args (hidHp F N h m) v (hidHp F N h' m')) : CallC P f args (hidHp F N h m) v (hidOut F N h' m') := by
  have hL0 : ∀ k, k < N + 2 → (rng 0 (N + 2) ++ rng 1 (N - 1)).getD k 0 = k := fun k hk => by
    rw [List.getD_eq_getElem?_getD, List.getElem?_append_left (by rw [rng_length]; exact hk), rng_get hk, Nat.zero_add]
    rfl
  have hL1 : ∀ j, j < N - 1 → (rng 0 (N + 2) ++ rng 1 (N - 1)).getD (N + 2 + j) 0 = 1 + j := fun j hj => by
    rw [List.getD_eq_getElem?_getD, List.getElem?_append_right (by rw [rng_length]; omega), rng_length, Nat.add_sub_cancel_left, rng_get hj]
    rfl
  have hmap : mapN (fun k => (rng 0 (N + 2) ++ rng 1 (N - 1)).getD k 0) (hidN N) = rng 0 N := by
    have : ∀ (n a : Nat), a + n ≤ N - 1 → mapN (fun k => (rng 0 (N + 2) ++ rng 1 (N - 1)).getD k 0) (rng (N + 2 + a) n) = rng (1 + a) n := fun n => by
      induction n with
      | zero => intro a _; rfl
      | succ n ih =>
        intro a ha
        show (rng 0 (N + 2) ++ rng 1 (N - 1)).getD (N + 2 + a) 0 :: mapN (fun k => (rng 0 (N + 2) ++ rng 1 (N - 1)).getD k 0) (rng (N + 2 + a + 1) n) = (1 + a) :: rng (1 + a + 1) n
        rw [hL1 a (by omega), show N + 2 + a + 1 = N + 2 + (a + 1) by omega, ih (a + 1) (by omega), Nat.add_assoc]
    show (rng 0 (N + 2) ++ rng 1 (N - 1)).getD 0 0 :: mapN (fun k => (rng 0 (N + 2) ++ rng 1 (N - 1)).getD k 0) (rng (N + 2) (N - 1)) = rng 0 N
    rw [hL0 0 (by omega), show rng (N + 2) (N - 1) = rng (N + 2 + 0) (N - 1) from rfl, this (N - 1) 0 (by omega)]
    have : rng 0 N = 0 :: rng 1 (N - 1) := by
      obtain ⟨k, rfl⟩ : ∃ k, N = k + 1 := ⟨N - 1, by omega⟩
      rfl
    rw [this]
  have hkeys : keys (hidOut F N h' m').blks = hidN N ++ [N, N + 1] := by
    show keys (optL F (hidN N) h' (hidN N) 0 ++ _) = _
    rw [keys_app, optL_keys]
    rfl
  have hmem : ∀ x, x ∈ hidN N → x = 0 ∨ (N + 2 ≤ x ∧ x < N + 2 + (N - 1)) := fun x hx => by
    simp only [hidN, List.mem_cons] at hx
    rcases hx with rfl | hx
    · exact .inl rfl
    · exact .inr (rng_mem.1 hx)
  have hlt : ∀ x ∈ hidN N ++ [N, N + 1], x < N + 2 + (N - 1) := fun x hx => by
    rcases List.mem_append.1 hx with hx | hx
    · rcases hmem x hx with h | h <;> omega
    · simp at hx
      omega
  have hnd : nodupB (hidN N ++ [N, N + 1]) = true := by
    have key : ∀ (n a : Nat), N + 2 ≤ a → nodupB (rng a n ++ [N, N + 1]) = true := fun n => by
      induction n with
      | zero =>
        intro a _
        show nodupB [N, N + 1] = true
        have : has N [N + 1] = false := by
          cases e : has N [N + 1]
          · rfl
          · have := has_iff.1 e
            simp at this
        simp only [nodupB, this, cond_false]
        rfl
      | succ n ih =>
        intro a ha
        have : has a (rng (a + 1) n ++ [N, N + 1]) = false := by
          cases e : has a (rng (a + 1) n ++ [N, N + 1])
          · rfl
          · rcases List.mem_append.1 (has_iff.1 e) with h | h
            · have := rng_mem.1 h
              omega
            · simp at h
              omega
        simp only [rng, List.cons_append, nodupB, this, cond_false]
        exact ih (a + 1) (by omega)
    have : has 0 (rng (N + 2) (N - 1) ++ [N, N + 1]) = false := by
      cases e : has 0 (rng (N + 2) (N - 1) ++ [N, N + 1])
      · rfl
      · rcases List.mem_append.1 (has_iff.1 e) with h | h
        · have := rng_mem.1 h
          omega
        · simp at h
          omega
    simp only [hidN, List.cons_append, nodupB, this, cond_false]
    exact key _ _ (Nat.le_refl _)
  have hkI : keysIn (N + 2 + (N - 1)) (hidOut F N h' m').blks = true := keysIn_of (fun n hn => hlt n (by rw [← hkeys]; exact hn)) (by rw [hkeys]; exact hnd)
  refine CallC.ren hC (rng 0 (N + 2) ++ rng 1 (N - 1)) (rn_none v hv).symm ?_ hkI ?_ ?_ fun k hk => hL0 k hk
  · refine allLt_of fun n hn => ?_
    rw [hv, List.nil_append] at hn
    show n < N + 2 + (N - 1)
    simp only [hidOut, tellB_app, List.mem_append] at hn
    rcases hn with hn | hn
    · refine hlt n (List.mem_append.2 (.inl ?_))
      rcases tellB_opt hn with h | h <;> exact h
    · simp [tellers.tellB, Blk.nm, Mm.cells, Cfg.cells, Tc.cells, nmL, nm] at hn
      omega
  · refine laysIn_app (laysIn_opt fun j n hj => ?_) ⟨?_, ?_, trivial⟩
    · rw [hmap]
      have hm : n ∈ hidN N := List.mem_of_getElem? hj
      have hjN : j < N := by
        have h1 := (List.getElem?_eq_some_iff.1 hj).1
        have : (hidN N).length = N := by
          simp only [hidN, List.length_cons, rng_length]
          omega
        omega
      have e1 : (rng 0 (N + 2) ++ rng 1 (N - 1)).getD n 0 = j := by
        have h2 : (mapN (fun k => (rng 0 (N + 2) ++ rng 1 (N - 1)).getD k 0) (hidN N))[j]? = some ((rng 0 (N + 2) ++ rng 1 (N - 1)).getD n 0) := by
          rw [mapN_eq, List.getElem?_map, hj]
          rfl
        rw [hmap, rng_get hjN, Nat.zero_add, Option.some.injEq] at h2
        exact h2.symm
      show (hidHp F N h' m').get ((rng 0 (N + 2) ++ rng 1 (N - 1)).getD n 0) = _
      rw [e1]
      show lookB j (hidO F N h' ++ _) = _
      rw [lookB_app, hidO, optL_at (by rw [rng_length]; exact hjN) (rng_get hjN |>.trans (by rw [Nat.zero_add])) (nodup_rng N 0)]
      rfl
    · show (hidHp F N h' m').get ((rng 0 (N + 2) ++ rng 1 (N - 1)).getD N 0) = some (.cells (m'.cells ((rng 0 (N + 2) ++ rng 1 (N - 1)).getD (N + 1) 0)) memT)
      rw [hL0 N (by omega), hL0 (N + 1) (by omega)]
      show lookB N (hidO F N h' ++ _) = _
      rw [lookB_app, look_none (by rw [hidO, optL_keys]; exact fun x => by have := rng_mem.1 x; omega), Option.none_or]
      simp [lookB]
    · show (hidHp F N h' m').get ((rng 0 (N + 2) ++ rng 1 (N - 1)).getD (N + 1) 0) = some (.ints .u64 m'.w u64T)
      rw [hL0 (N + 1) (by omega)]
      show lookB (N + 1) (hidO F N h' ++ _) = _
      rw [lookB_app, look_none (by rw [hidO, optL_keys]; exact fun x => by have := rng_mem.1 x; omega), Option.none_or]
      have : Nat.beq N (N + 1) = false := by
        cases e : Nat.beq N (N + 1)
        · rfl
        · have := beq_nat e
          omega
      simp [lookB, this]
  · refine vdup_of (fun a b ha hb e => ?_) (by rw [hkeys]; exact hnd)
    rw [hkeys] at ha hb
    have val : ∀ x ∈ hidN N ++ [N, N + 1], (x = 0 ∧ (rng 0 (N + 2) ++ rng 1 (N - 1)).getD x 0 = 0) ∨ (N + 2 ≤ x ∧ x < N + 2 + (N - 1) ∧ (rng 0 (N + 2) ++ rng 1 (N - 1)).getD x 0 + (N + 1) = x) ∨ (x = N ∧ (rng 0 (N + 2) ++ rng 1 (N - 1)).getD x 0 = N) ∨ (x = N + 1 ∧ (rng 0 (N + 2) ++ rng 1 (N - 1)).getD x 0 = N + 1) := fun x hx => by
      rcases List.mem_append.1 hx with hx | hx
      · rcases hmem x hx with rfl | ⟨h1, h2⟩
        · exact .inl ⟨rfl, hL0 0 (by omega)⟩
        · refine .inr (.inl ⟨h1, h2, ?_⟩)
          have := hL1 (x - (N + 2)) (by omega)
          rw [show N + 2 + (x - (N + 2)) = x by omega] at this
          omega
      · simp at hx
        rcases hx with rfl | rfl
        · exact .inr (.inr (.inl ⟨rfl, hL0 _ (by omega)⟩))
        · exact .inr (.inr (.inr ⟨rfl, hL0 _ (by omega)⟩))
    rcases val a ha with h1 | h1 | h1 | h1 <;> rcases val b hb with h2 | h2 | h2 | h2 <;> omega
/-! What is only asked of it -/
def hidHp0 (F : HF) (N : Nat) (h : Hid) : Hp := ⟨hidO F N h, N, []⟩
def gAsk (F : HF) (N : Nat) (ret : Hid → List Value → Value) (pre : Hid → List Value → Prop) (args : List Value) (hp : Hp) : Option (Value × Hp × List Prop) :=
  match args with
  | .pointer (some ⟨k, 0, none⟩) :: rest => match hp.get k with
    | some (.opt ns _ h) => match pickB hp ns with
      | some bs => bif nodupB ns && (Nat.beq ns.length N && (headB k ns && noNm rest)) then some (ret h rest, hp, [isHid F ns h bs, pre h rest]) else none
      | none => none
    | _ => none
  | _ => none
theorem hid0_keys (F : HF) (N : Nat) (h : Hid) : keys (hidHp0 F N h).blks = rng 0 N := by
  show keys (hidO F N h) = _
  rw [hidO, optL_keys]
theorem hid_map0 {ns : List Nat} {N nx : Nat} (hl : ns.length = N) : mapN (ext ns N nx) (rng 0 N) = ns := by
  rw [mapN_eq]
  apply List.ext_getElem?
  intro i
  rw [List.getElem?_map]
  by_cases hi : i < N
  · rw [rng_get hi, Nat.zero_add, Option.map_some, ext_old hi, List.getD_eq_getElem?_getD, List.getElem?_eq_getElem (by omega)]
    rfl
  · rw [List.getElem?_eq_none (by rw [rng_length]; omega), List.getElem?_eq_none (by omega)]
    rfl
theorem hid0_tell {F : HF} {N : Nat} {h : Hid} {args : List Value} (ha : ∀ k ∈ nmL args, k < N) : allLt N (tellers args (hidHp0 F N h)) = true ∧ allHas (tellers args (hidHp0 F N h)) (upTo N) = true := by
  refine ⟨allLt_of fun n hn => ?_, allHas_of fun n hn => ?_⟩
  · simp only [tellers, hidHp0, hidO, List.mem_append] at hn
    rcases hn with hn | hn
    · exact ha n hn
    · have : n ∈ rng 0 N := by rcases tellB_opt hn with h | h <;> exact h
      have := rng_mem.1 this
      omega
  · have := upTo_lt hn
    simp only [tellers, hidHp0, hidO, List.mem_append]
    exact .inr (opt_tellB (rng_mem.2 ⟨Nat.zero_le _, by omega⟩))
theorem hid0_opts {F : HF} {N : Nat} {h : Hid} : optsB (keys (hidHp0 F N h).blks) (hidHp0 F N h).blks = true := by
  rw [hid0_keys]
  have := optsB_opt (ks := rng 0 N) (F := F) (ns := rng 0 N) (h := h) (fun x hx => hx) (l' := []) rfl (rng 0 N) 0
  rw [List.append_nil] at this
  exact this
theorem hid0_keysIn {F : HF} {N : Nat} {h : Hid} : keysIn N (hidHp0 F N h).blks = true := by
  refine keysIn_of (fun n hn => ?_) ?_
  · rw [hid0_keys] at hn
    have := rng_mem.1 hn
    omega
  · rw [hid0_keys]
    exact nodup_rng _ _
theorem pick_nil : ∀ l : List (Nat × Blk), pick' [] l = []
  | [] => rfl
  | (n, b) :: r => by simp only [pick', has, cond_false, pick_nil r]
theorem gAsk_ok {F : HF} {N : Nat} {ret : Hid → List Value → Value} {pre : Hid → List Value → Prop} {f : FuncId} (hent : Enters Tryz.prog f) (hret : ∀ s rest, nm (ret s rest) = [])
    (hC : ∀ h rest, pre h rest → CallC Tryz.prog f (pt0 :: rest) (hidHp0 F N h) (ret h rest) (hidHp0 F N h)) :
    ∀ args hp v hp' pc, gAsk F N ret pre args hp = some (v, hp', pc) → ∀ ds, CallOk Tryz.prog f args hp ⟨v, hp', ds, pc⟩ := by
  intro args hp v hp' pc hg ds
  unfold gAsk at hg
  split at hg
  · rename_i k rest
    split at hg
    · rename_i ns f' h hk
      split at hg
      · rename_i bs hbs
        cases hcd : (nodupB ns && (Nat.beq ns.length N && (headB k ns && noNm rest)))
        · simp [hcd] at hg
        simp only [hcd, cond_true, Option.some.injEq, Prod.mk.injEq] at hg
        obtain ⟨rfl, rfl, rfl⟩ := hg
        simp only [Bool.and_eq_true] at hcd
        obtain ⟨hnd, hlen, hhd, hrest⟩ := hcd
        have hl : ns.length = N := beq_nat hlen
        have hx : nmL rest = [] := List.isEmpty_iff.1 hrest
        have hN : 0 < N := by
          cases ns with
          | nil => cases hhd
          | cons _ _ => rw [← hl]; exact Nat.succ_pos _
        have hk0 : ext ns N hp.next 0 = k := by
          rw [ext_old (by omega)]
          cases ns with
          | nil => cases hhd
          | cons n r => exact beq_nat hhd
        have ht := hid0_tell (F := F) (N := N) (h := h) (args := pt0 :: rest) (fun j hj => by
          simp only [nmL, nm, hx, List.append_nil, List.mem_cons, List.not_mem_nil, or_false] at hj
          omega)
        by_cases hc : isHid F ns h bs ∧ pre h rest
        · obtain ⟨hbl, hpre⟩ := hc
          have hget := pickB_get (show pickB hp ns = some (bl F ns h ns 0) from by rw [hbs, hbl])
          have hl2 := CallC.lift hent (pc := [isHid F ns h bs, pre h rest]) (fun _ => hC h rest hpre) ns [] (Nat.le_refl _) hid0_keysIn ht.1 ht.2 hnd hl (samesIn_self _) (hp := hp) (args := .pointer (some ⟨k, 0, none⟩) :: rest)
            (by
              show _ = rnL (ext ns N hp.next) (pt0 :: rest)
              simp only [rnL, rnL_none rest hx, rn, hk0])
            (laysIn_opt fun j n hj => by
              show hp.get (ext ns N hp.next n) = some (.opt (mapN (ext ns N hp.next) (rng 0 N)) (F (0 + j)) h)
              have hjN : j < N := by have := (List.getElem?_eq_some_iff.1 hj).1; rw [rng_length] at this; exact this
              rw [rng_get hjN, Nat.zero_add, Option.some.injEq] at hj
              subst hj
              rw [hid_map0 hl, ext_old hjN, Nat.zero_add]
              have := hget j (ns.getD j 0) (by rw [List.getD_eq_getElem?_getD, List.getElem?_eq_getElem (by omega)]; rfl)
              rw [Nat.zero_add] at this
              exact this) ds hid0_opts
          rw [rn_none _ (hret h rest)] at hl2
          have e : hp.lay ns (hidHp0 F N h).next (hidHp0 F N h) [] = hp := by
            show (⟨layB (ext ns N hp.next) (pick' [] (hidHp0 F N h).blks) ++ delB [] hp.blks, hp.next + (N - N), [] ++ hp.log⟩ : Hp) = hp
            rw [pick_nil, delB_nil, Nat.sub_self]
            rfl
          rw [e] at hl2
          exact hl2
        · exact ⟨Keep.refl _, hent, fun hpc => absurd ⟨hpc _ (by simp), hpc _ (by simp)⟩ hc⟩
      · cases hg
    · cases hg
  · cases hg
/-! One that is made -/
def gMade (F : HF) (N : Nat) (st : List Value → Hid) (pre : List Value → Prop) (args : List Value) (hp : Hp) : Option (Value × Hp × List Prop) :=
  bif noNm args && Nat.blt 0 N then some (.pointer (some ⟨hp.next, 0, none⟩), ⟨optL F (rng hp.next N) (st args) (rng hp.next N) 0 ++ delB (rng hp.next N) hp.blks, hp.next + N, hp.log⟩, [pre args]) else none
theorem below_zero : ∀ l : List Nat, below 0 l = []
  | [] => rfl
  | n :: r => by
    have : Nat.blt n 0 = false := by cases h : Nat.blt n 0 <;> simp [Nat.blt] at h ⊢
    simp only [below, this, cond_false, below_zero r]
theorem map_new {nx : Nat} : ∀ (n a : Nat), mapN (ext [] 0 nx) (rng a n) = rng (nx + a) n
  | 0, _ => rfl
  | n + 1, a => by
    have e : ext [] 0 nx a = nx + a := by rw [ext_new (Nat.zero_le _)]; rfl
    simp only [rng, mapN, e, map_new n (a + 1), Nat.add_assoc]
theorem gMade_ok {F : HF} {N : Nat} {st : List Value → Hid} {pre : List Value → Prop} {f : FuncId} (hent : Enters Tryz.prog f)
    (hC : ∀ args, pre args → CallC Tryz.prog f args ⟨[], 0, []⟩ pt0 (hidHp0 F N (st args))) :
    ∀ args hp v hp' pc, gMade F N st pre args hp = some (v, hp', pc) → ∀ ds, CallOk Tryz.prog f args hp ⟨v, hp', ds, pc⟩ := by
  intro args hp v hp' pc hg ds
  unfold gMade at hg
  cases hcd : (noNm args && Nat.blt 0 N)
  · simp [hcd] at hg
  simp only [hcd, cond_true, Option.some.injEq, Prod.mk.injEq] at hg
  obtain ⟨rfl, rfl, rfl⟩ := hg
  rw [Bool.and_eq_true] at hcd
  have hx : nmL args = [] := List.isEmpty_iff.1 hcd.1
  have hl := CallC.lift hent (fun h => hC args (hd1 h)) [] (rng 0 N) (Nat.zero_le _) rfl (by simp [tellers, hx, tellers.tellB, allLt]) rfl rfl rfl trivial (hp := hp) (args := args) (rnL_none args hx).symm trivial ds
  have e0 : ext [] 0 hp.next 0 = hp.next := by rw [ext_new (Nat.le_refl _)]; rfl
  have ev : rn (ext [] 0 hp.next) pt0 = .pointer (some ⟨hp.next, 0, none⟩) := by simp only [rn, e0]
  have e : hp.lay [] 0 (hidHp0 F N (st args)) (rng 0 N) = ⟨optL F (rng hp.next N) (st args) (rng hp.next N) 0 ++ delB (rng hp.next N) hp.blks, hp.next + N, hp.log⟩ := by
    show (⟨layB (ext [] 0 hp.next) (pick' (rng 0 N) (hidHp0 F N (st args)).blks) ++ delB (mapN (ext [] 0 hp.next) (rng 0 N)) hp.blks, hp.next + (N - 0), mapN (ext [] 0 hp.next) (below 0 (rng 0 N)) ++ hp.log⟩ : Hp) = _
    rw [pick_all (fun n hn => by rw [hid0_keys] at hn; exact hn), below_zero, map_new, Nat.add_zero]
    show (⟨layB (ext [] 0 hp.next) (hidO F N (st args)) ++ delB (rng hp.next N) hp.blks, hp.next + (N - 0), [] ++ hp.log⟩ : Hp) = _
    rw [hidO, optL_lay, map_new, Nat.add_zero]
    rfl
  rw [ev, e] at hl
  exact hl
end Go.Proofs.YtocfhiafegkfkaaGreat.Ct
