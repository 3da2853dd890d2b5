/- Parts of the proof: QU1, BG4, BG6, BG7, WG7. -/
import Derived.Deep.AppendSrc
import Derived.Deep.AppendLies
import Derived.Deep.LoopGhost
import Derived.Test.YtodjofbneeejpaaGreatDoorMBA0
import Derived.Test.YtodjofbneeejpaaGreatDoorMBA7
import Derived.Test.YtodjofbneeejpaaGreatDoorMBA8
section
/- A queue: a slice that the call owns, whose head has been cut off; append. -/
namespace Go.Proofs.Tg
open Go.RowKit
set_option maxHeartbeats 1000000
/-- The elements (of one cell) lie in a block of the call's own, from some place on, and there is room behind them up to the slice's capacity. -/
def Que (w : World) (base : Nat) (e : TypeId) (v : Value) (xs : List Value) : Prop :=
  ∃ g o cap cur, v = .slice (some ⟨g, o, none⟩) xs.length cap ∧ base ≤ g ∧ w.heap[g]? = some (.cells cur e (0, 0)) ∧ xs.length ≤ cap ∧ cap ≤ maxLen ∧ o + cap ≤ cur.size ∧ ∀ j u, xs[j]? = some u → cur[o + j]? = some u
theorem Que.below {w w' : World} {base : Nat} {e : TypeId} {v : Value} {xs : List Value} (h : Que w base e v xs) (hb : Below w.heap.size w w') : Que w' base e v xs := by
  obtain ⟨g, o, cap, cur, h1, h2, h3, h4⟩ := h
  exact ⟨g, o, cap, cur, h1, h2, (hb.block g (Array.getElem?_eq_some_iff.1 h3).1).trans h3, h4⟩
theorem Que.of_blk {w : World} {base g : Nat} {e : TypeId} {xs : List Value} (h : Blk w g e xs.toArray) (hb : base ≤ g) (hm : xs.length ≤ maxLen) : Que w base e (.slice (some ⟨g, 0, none⟩) xs.length xs.length) xs :=
  ⟨g, 0, xs.length, xs.toArray, rfl, hb, h, Nat.le_refl _, hm, by simp, fun j u hu => by simpa using hu⟩
/-- The block in which a queue lies. -/
theorem Que.blk {w : World} {base : Nat} {e : TypeId} {v : Value} {xs : List Value} (h : Que w base e v xs) : ∃ g, v.ownBlock = some g ∧ base ≤ g ∧ g < w.heap.size := by
  obtain ⟨g, o, cap, cur, rfl, h2, h3, _⟩ := h
  exact ⟨g, rfl, h2, (Array.getElem?_eq_some_iff.1 h3).1⟩
theorem Que.ne {w : World} {base g : Nat} {e t : TypeId} {v : Value} {xs : List Value} {cs : Array Value} (h : Que w base e v xs) (hB : Blk w g t cs) (hne : e ≠ t) : some g ≠ v.ownBlock := by
  obtain ⟨q, o, cap, cur, rfl, h2, h3, _⟩ := h
  intro e1
  injection e1 with e1
  subst e1
  unfold Blk at hB
  rw [h3] at hB
  injection hB with hB
  injection hB with _ h4
  exact hne h4
theorem Que.tail {w : World} {base : Nat} {e : TypeId} {g o n cap : Nat} {x : Value} {xs : List Value} (h : Que w base e (.slice (some ⟨g, o, none⟩) n cap) (x :: xs)) : Que w base e (.slice (some ⟨g, o + 1, none⟩) xs.length (cap - 1)) xs := by
  obtain ⟨g', o', cap', cur, h1, h2, h3, h4, h5, h6, h7⟩ := h
  injection h1 with h1 _ hc
  injection h1 with h1
  injection h1 with hg ho
  subst hg ho hc
  rw [List.length_cons] at h4
  refine ⟨g, o + 1, cap - 1, cur, rfl, h2, h3, by omega, by omega, by omega, fun j u hu => ?_⟩
  have := h7 (j + 1) u (by simpa using hu)
  rw [show o + 1 + j = o + (j + 1) by omega]
  exact this
theorem Que.head {w : World} {base : Nat} {e : TypeId} {v x : Value} {xs : List Value} (h : Que w base e v (x :: xs)) : ∃ g o cap, v = .slice (some ⟨g, o, none⟩) (xs.length + 1) cap ∧ w.cell? ⟨g, o, none⟩ = some x ∧ 0 < cap := by
  obtain ⟨g, o, cap, cur, h1, h2, h3, h4, h5, h6, h7⟩ := h
  refine ⟨g, o, cap, h1, ?_, by rw [List.length_cons] at h4; omega⟩
  rw [cell_of_row w g o cur e _ h3]
  exact h7 0 x rfl
section
variable {P : Program}
theorem run_que_append (w : World) (base : Nat) (t ty e : TypeId) (i : TypeInfo) (z : Value) (bytes : Nat) (ht : P.underlying t = some (.slice e)) (hi : P.info? e = some i) (hz : i.zero = some z) (hsize : i.size = 1) (hby : i.bytes = bytes) (hzs : z.cells.size = 1)
    (v : Value) (xs : List Value) (hq : Que w base e v xs) (a : Addr) (c : Nat) (u : Value) (hu : w.cell? a = some u) (h1 : u.oneCell' = true) (h63 : xs.length + 1 ≤ maxLen) (hbytes : (xs.length + 1) * bytes ≤ 140737488355328) (hbase : base ≤ w.heap.size) :
    ∃ v' w', (Builtin.append_ #[t, t] ty #[v, .slice (some a) 1 c]).run P w = .ok v' w' ∧ Que w' base e v' (xs ++ [u]) ∧ w.grownBy w' v.ownBlock ∧ (v'.ownBlock = v.ownBlock ∨ v'.ownBlock = some w.heap.size) ∧ ∀ ad n c, v = .slice (some ad) n c → ((∃ n' c', v' = .slice (some ad) n' c') ∨ v'.ownBlock = some w.heap.size) ∧ ∀ q, q < ad.off + xs.length → w'.cell? ⟨ad.block, q, none⟩ = w.cell? ⟨ad.block, q, none⟩ := by
  obtain ⟨g, o, cap, cur, rfl, h2, h3, h4, h5, h6, h7⟩ := hq
  have hnews : ∀ j x, [u][j]? = some x → w.cell? (a.add j) = some x := fun j x hj => by
    match j, hj with
    | 0, hj =>
      simp at hj
      subst hj
      have e : a.add 0 = a := by unfold Addr.add; split <;> simp_all
      rw [e]; exact hu
  have hs : Src P i.size t (.slice (some a) 1 c) 1 [u] w := Src.ofSlice w ht a 1 c [u] (by rw [hsize]; rfl) hnews (fun x hx => by rw [List.mem_singleton.1 hx]; exact h1)
  by_cases hroom : xs.length + 1 ≤ cap
  · have hlt : o + xs.length < cur.size := by omega
    have hr := run_append_room_src (P := P) w t t ty e i ht hi g o xs.length cap _ 1 [u] hs hroom (fun j hj => by
      have : j = 0 := by simpa using hj
      subst this
      rw [hsize, cell_of_row w g _ cur e _ h3]
      simp
      omega) (fun j hj => by
      have : j = 0 := by simpa using hj
      subst this
      rw [hsize]
      simp [World.frozen?, h3])
    rw [hsize, Nat.mul_one] at hr
    refine ⟨_, _, hr, ⟨g, o, cap, cur.setIfInBounds (o + xs.length) u, by simp, h2, ?_, by simpa using hroom, h5, by simpa using h6, fun j x hx => ?_⟩, ?_, .inl rfl, fun ad n c he => ⟨.inl (by
      injection he with he
      injection he with he
      subst he
      exact ⟨_, _, rfl⟩), fun q hq => ?_⟩⟩
    · simp [World.setCells, World.setCell, Array.getElem?_modify, h3]
    · rw [Array.getElem?_setIfInBounds]
      by_cases hj : j < xs.length
      · rw [if_neg (by omega)]
        rw [List.getElem?_append_left hj] at hx
        exact h7 j x hx
      · have hj2 : j = xs.length := by
          have := (List.getElem?_eq_some_iff.1 hx).1
          simp at this
          omega
        subst hj2
        rw [if_pos rfl, if_pos hlt]
        simpa using hx
    · refine ⟨rfl, rfl, rfl, by simp [World.setCells, World.setCell], fun k hk hne => ?_⟩
      have : k ≠ g := fun e1 => hne (by simp [Value.ownBlock, e1])
      simp [World.setCells, World.setCell, Array.getElem?_modify, Ne.symm this]
    · injection he with he
      injection he with he
      subst he
      have hq2 : q < o + xs.length := hq
      exact World.cell?_setCell_other _ _ _ _ (fun e1 => by
        injection e1 with _ e2 _
        omega)
  · have holds : (Builtin.firstCells i.size xs.length (.slice (some ⟨g, o, none⟩) xs.length cap)).run P w.drew = .ok xs.toArray w.drew := by
      rw [hsize]
      refine run_firstCells_some w.drew 1 xs.length ⟨g, o, none⟩ xs.length cap xs (by simp) (fun j x hx => ?_)
      rw [add_lit, World.cell?_drew, cell_of_row w g _ cur e _ h3]
      exact h7 j x hx
    have hr := run_append_grow_src (P := P) w t t ty e i z ht hi hz (some ⟨g, o, none⟩) xs.length cap xs holds _ 1 [u] hs (by omega) (by simp only [maxLen] at h63; omega) (growslice_fits (by omega) (by rw [hby]; exact hbytes))
    have hge := grownCap_ge w (xs.length + 1) cap e
    have hcm : grownCap w (xs.length + 1) cap e ≤ maxLen := grownCap_le_maxLen w (xs.length + 1) cap e h63
    refine ⟨_, _, hr, ⟨w.heap.size, 0, grownCap w (xs.length + 1) cap e, _, by simp, hbase, heap_alloc_new w.drew _, by simpa using hge, hcm, ?_, fun j x hx => ?_⟩, ⟨rfl, rfl, rfl, by simp, fun k hk _ => heap_alloc_old w.drew _ hk⟩, .inr rfl, fun ad n c he => ⟨.inr rfl, fun q hq => ?_⟩⟩
    · simp only [Array.size_append, List.size_toArray, size_zeroCells, hzs, List.length_append, List.length_singleton]
      omega
    · rw [Nat.zero_add, Array.getElem?_append_left]
      · simpa using hx
      · have := (List.getElem?_eq_some_iff.1 hx).1
        simpa using this
    · injection he with he
      injection he with he
      subst he
      exact World.cell?_of_block (heap_alloc_old w.drew _ (Array.getElem?_eq_some_iff.1 h3).1)
/-- At the operation, for the walk. -/
theorem wpList_que_append (w : World) {ops : Array Oper} {rest : List Oper} {o : Oper} {a : Act} {Q : Exit → Act → World → Prop} (hgd : o.guard = none) (s x : Operand) (t : TypeId)
    (ho : o.op = .call { callee := .builtin .append, args := #[s, x], argTypes := #[t, t] })
    (base : Nat) (e : TypeId) (i : TypeInfo) (z : Value) (bytes : Nat) (ht : P.underlying t = some (.slice e)) (hi : P.info? e = some i) (hz : i.zero = some z) (hsize : i.size = 1) (hby : i.bytes = bytes) (hzs : z.cells.size = 1)
    (v : Value) (xs : List Value) (hs : a.eval s = v) (hq : Que w base e v xs) (ad : Addr) (c : Nat) (u : Value) (hx : a.eval x = .slice (some ad) 1 c) (hu : w.cell? ad = some u) (h1 : u.oneCell' = true) (h63 : xs.length + 1 ≤ maxLen) (hbytes : (xs.length + 1) * bytes ≤ 140737488355328) (hbase : base ≤ w.heap.size)
    (h : ∀ v' w', Que w' base e v' (xs ++ [u]) → w.grownBy w' v.ownBlock → (v'.ownBlock = v.ownBlock ∨ v'.ownBlock = some w.heap.size) → (∀ ad n c, v = .slice (some ad) n c → ((∃ n' c', v' = .slice (some ad) n' c') ∨ v'.ownBlock = some w.heap.size) ∧ ∀ q, q < ad.off + xs.length → w'.cell? ⟨ad.block, q, none⟩ = w.cell? ⟨ad.block, q, none⟩) → wpList P ops Q rest (a.put o.dst v') w') :
    wpList P ops Q (o :: rest) a w := by
  refine wpList_plain hgd fun K hK => ?_
  obtain ⟨v', w', hr, h2, h3, h4, h5⟩ := run_que_append (P := P) w base t o.type e i z bytes ht hi hz hsize hby hzs v xs hq ad c u hu h1 h63 hbytes hbase
  unfold Oper.wp execOp
  simp only [ho, resolve, invoke, builtin, Sem.run_bind, Sem.run_pure, Result.andThen_ok, List.map_toArray, List.map_cons, List.map_nil, hs, hx, hr]
  exact hK _ _ (h v' w' h2 h3 h4 h5)
end
end Go.Proofs.Tg
end
section
/- The products of all subsets of commuting involutions. Plain. -/
namespace Go.Pm
theorem snoc_ind {α : Type} {P : List α → Prop} (h0 : P []) (h1 : ∀ l a, P l → P (l ++ [a])) (l : List α) : P l := by
  have : ∀ l : List α, P l.reverse := fun l => by
    induction l with
    | nil => exact h0
    | cons a l ih => rw [List.reverse_cons]; exact h1 _ _ ih
  have := this l.reverse
  rwa [List.reverse_reverse] at this
def prods (n : Nat) (l : List (List Int)) : List (List Int) := l.foldl (fun out a => out ++ out.map (cmp a)) [unit n]
theorem prods_nil (n : Nat) : prods n [] = [unit n] := rfl
theorem prods_snoc (n : Nat) (l : List (List Int)) (a : List Int) : prods n (l ++ [a]) = prods n l ++ (prods n l).map (cmp a) := by simp [prods]
theorem prods_len (n : Nat) (l : List (List Int)) : (prods n l).length = 2 ^ l.length := by
  induction l using snoc_ind with
  | h0 => rfl
  | h1 l a ih => rw [prods_snoc, List.length_append, List.length_map, ih, List.length_append, List.length_singleton, Nat.pow_succ]; omega
theorem prods_zero (n : Nat) (l : List (List Int)) : (prods n l)[0]? = some (unit n) := by
  induction l using snoc_ind with
  | h0 => rfl
  | h1 l a ih => rw [prods_snoc, List.getElem?_append_left (by rw [prods_len]; exact Nat.pow_pos (by omega)), ih]
theorem prods_at (n : Nat) (l : List (List Int)) (hl : ∀ a ∈ l, Perm n a) : ∀ t (h : t < l.length), (prods n l)[2 ^ t]? = some l[t] := by
  induction l using snoc_ind with
  | h0 => intro t h; simp at h
  | h1 l a ih =>
    intro t h
    rw [List.length_append, List.length_singleton] at h
    rw [prods_snoc]
    by_cases ht : t < l.length
    · rw [List.getElem?_append_left (by rw [prods_len]; exact Nat.pow_lt_pow_right (by omega) ht), ih (fun a ha => hl a (List.mem_append_left _ ha)) t ht, List.getElem_append_left ht]
    · obtain rfl : t = l.length := by omega
      rw [List.getElem?_append_right (by rw [prods_len]; omega), prods_len, Nat.sub_self, List.getElem?_map, prods_zero]
      simp only [Option.map_some, Option.some.injEq]
      rw [cmp_unit (hl a (by simp)).1]
      simp
/-- Involutions that commute. -/
structure Sub (n : Nat) (l : List (List Int)) : Prop where
  perm : ∀ a ∈ l, Perm n a
  inv : ∀ a ∈ l, cmp a a = unit n
  com : ∀ a ∈ l, ∀ b ∈ l, cmp a b = cmp b a
theorem Sub.nil (n : Nat) : Sub n [] := ⟨fun _ h => by simp at h, fun _ h => by simp at h, fun _ h => by simp at h⟩
theorem Sub.snoc {n : Nat} {l : List (List Int)} {a : List Int} (h : Sub n l) (ha : Perm n a) (hi : cmp a a = unit n) (hc : ∀ b ∈ l, cmp a b = cmp b a) : Sub n (l ++ [a]) := by
  refine ⟨fun x hx => ?_, fun x hx => ?_, fun x hx y hy => ?_⟩
  · rcases List.mem_append.1 hx with hx | hx
    · exact h.perm x hx
    · rw [List.mem_singleton.1 hx]; exact ha
  · rcases List.mem_append.1 hx with hx | hx
    · exact h.inv x hx
    · rw [List.mem_singleton.1 hx]; exact hi
  · rcases List.mem_append.1 hx with hx | hx
    · rcases List.mem_append.1 hy with hy | hy
      · exact h.com x hx y hy
      · rw [List.mem_singleton.1 hy]; exact (hc x hx).symm
    · rw [List.mem_singleton.1 hx]
      rcases List.mem_append.1 hy with hy | hy
      · exact hc y hy
      · rw [List.mem_singleton.1 hy]
theorem Sub.init {n : Nat} {l : List (List Int)} {a : List Int} (h : Sub n (l ++ [a])) : Sub n l :=
  ⟨fun x hx => h.perm x (List.mem_append_left _ hx), fun x hx => h.inv x (List.mem_append_left _ hx), fun x hx y hy => h.com x (List.mem_append_left _ hx) y (List.mem_append_left _ hy)⟩
theorem prods_perm {n : Nat} {l : List (List Int)} (hl : ∀ a ∈ l, Perm n a) : ∀ p ∈ prods n l, Perm n p := by
  induction l using snoc_ind with
  | h0 => intro p hp; rw [prods_nil, List.mem_singleton] at hp; rw [hp]; exact unit_perm n
  | h1 l a ih =>
    intro p hp
    have ih := ih (fun a ha => hl a (List.mem_append_left _ ha))
    rw [prods_snoc] at hp
    rcases List.mem_append.1 hp with hp | hp
    · exact ih p hp
    · obtain ⟨q, hq, rfl⟩ := List.mem_map.1 hp
      exact cmp_perm (hl a (by simp)) (ih q hq)
theorem prods_com {n : Nat} {l : List (List Int)} (hl : ∀ a ∈ l, Perm n a) {x : List Int} (hx : Perm n x) (hc : ∀ a ∈ l, cmp x a = cmp a x) : ∀ p ∈ prods n l, cmp x p = cmp p x := by
  induction l using snoc_ind with
  | h0 => intro p hp; rw [prods_nil, List.mem_singleton] at hp; rw [hp, unit_cmp hx, cmp_unit hx.1]
  | h1 l a ih =>
    intro p hp
    have hl' : ∀ a ∈ l, Perm n a := fun a ha => hl a (List.mem_append_left _ ha)
    have ih := ih hl' (fun a ha => hc a (List.mem_append_left _ ha))
    have ha := hl a (by simp)
    rw [prods_snoc] at hp
    rcases List.mem_append.1 hp with hp | hp
    · exact ih p hp
    · obtain ⟨q, hq, rfl⟩ := List.mem_map.1 hp
      have hq' := prods_perm hl' q hq
      rw [← cmp_assoc ha.1 hq', hc a (by simp), cmp_assoc hx.1 hq', ih q hq, ← cmp_assoc hq'.1 hx]
theorem Sub.mul {n : Nat} {l : List (List Int)} (h : Sub n l) : ∀ p ∈ prods n l, ∀ q ∈ prods n l, cmp p q ∈ prods n l := by
  induction l using snoc_ind with
  | h0 =>
    intro p hp q hq
    rw [prods_nil, List.mem_singleton] at hp hq
    rw [hp, hq, unit_cmp (unit_perm n), prods_nil]; simp
  | h1 l a ih =>
    have ih := ih h.init
    have ha := h.perm a (by simp)
    have hi := h.inv a (by simp)
    have hP := prods_perm h.init.perm
    have hC := prods_com h.init.perm ha (fun b hb => h.com a (by simp) b (List.mem_append_left _ hb))
    intro p hp q hq
    rw [prods_snoc] at hp hq ⊢
    rcases List.mem_append.1 hp with hp | hp
    · rcases List.mem_append.1 hq with hq | hq
      · exact List.mem_append_left _ (ih p hp q hq)
      · obtain ⟨r, hr, rfl⟩ := List.mem_map.1 hq
        refine List.mem_append_right _ (List.mem_map.2 ⟨cmp p r, ih p hp r hr, ?_⟩)
        rw [← cmp_assoc (hP p hp).1 (hP r hr), hC p hp, cmp_assoc ha.1 (hP r hr)]
    · obtain ⟨s, hs, rfl⟩ := List.mem_map.1 hp
      rcases List.mem_append.1 hq with hq | hq
      · refine List.mem_append_right _ (List.mem_map.2 ⟨cmp s q, ih s hs q hq, ?_⟩)
        rw [cmp_assoc (hP s hs).1 (hP q hq)]
      · obtain ⟨r, hr, rfl⟩ := List.mem_map.1 hq
        refine List.mem_append_left _ ?_
        have e : cmp (cmp a s) (cmp a r) = cmp s r := by
          rw [hC s hs, cmp_assoc ha.1 (cmp_perm ha (hP r hr)), ← cmp_assoc (b := a) ha.1 (hP r hr), hi, unit_cmp (hP r hr)]
        rw [e]
        exact ih s hs r hr
theorem Sub.unit_mem (n : Nat) (l : List (List Int)) : unit n ∈ prods n l := List.mem_of_getElem? (prods_zero n l)
/-- One involution more: the products stay different just where it is none of them. -/
theorem Sub.nodup_snoc {n : Nat} {l : List (List Int)} {a : List Int} (h : Sub n l) (hn : (prods n l).Nodup) (ha : Perm n a) (hi : cmp a a = unit n) : (prods n (l ++ [a])).Nodup ↔ a ∉ prods n l := by
  have hP := prods_perm h.perm
  rw [prods_snoc]
  constructor
  · intro hnd hm
    have := (List.nodup_append.1 hnd).2.2 a hm a (List.mem_map.2 ⟨unit n, Sub.unit_mem n l, cmp_unit ha.1⟩)
    exact this rfl
  · intro hm
    refine List.nodup_append.2 ⟨hn, List.pairwise_map.2 (hn.imp_of_mem fun {x y} hx hy hne e => hne (cmp_inj ha (hP x hx) (hP y hy) e)), fun x hx y hy e => ?_⟩
    subst e
    obtain ⟨q, hq, he⟩ := List.mem_map.1 hy
    -- a q = x: a = x q
    apply hm
    have h1 : cmp (cmp a q) q = cmp x q := by rw [he]
    have hqq : cmp q q = unit n := by
      have hself : ∀ (l : List (List Int)), Sub n l → ∀ p ∈ prods n l, cmp p p = unit n := fun l => by
        induction l using snoc_ind with
        | h0 => intro _ p hp; rw [prods_nil, List.mem_singleton] at hp; rw [hp, unit_cmp (unit_perm n)]
        | h1 l b ih =>
          intro h p hp
          have hb := h.perm b (by simp)
          rw [prods_snoc] at hp
          rcases List.mem_append.1 hp with hp | hp
          · exact ih h.init p hp
          · obtain ⟨r, hr, rfl⟩ := List.mem_map.1 hp
            have hr' := prods_perm h.init.perm r hr
            have hC := prods_com h.init.perm hb (fun c hc => h.com b (by simp) c (List.mem_append_left _ hc)) r hr
            rw [cmp_assoc hr'.1 (cmp_perm hb hr'), hC, ← cmp_assoc (b := r) hr'.1 hb, ih h.init r hr, unit_cmp hb, h.inv b (by simp)]
      exact hself l h q hq
    rw [cmp_assoc (hP q hq).1 (hP q hq), hqq, cmp_unit ha.1] at h1
    rw [h1]
    exact h.mul x hx q hq
/-- What both sides ask of one involution more. -/
theorem Sub.step {n : Nat} {l : List (List Int)} {a : List Int} (h : Sub n l) (hn : (prods n l).Nodup) (ha : Perm n a) (hi : cmp a a = unit n) (hb : (prods n (l ++ [a])).Nodup → (∀ b ∈ l, cmp a b = cmp b a) → l.length + 1 ≤ n) :
    (a ∉ prods n l ∧ ∀ b ∈ l, cmp a b = cmp b a) ↔ ((∀ i k, ∀ (h1 : i < (l ++ [a]).length) (h2 : k < i), cmp (l ++ [a])[i] (l ++ [a])[k] = cmp (l ++ [a])[k] (l ++ [a])[i]) ∧ (l ++ [a]).length ≤ n ∧ (prods n (l ++ [a])).Nodup) := by
  have hND := h.nodup_snoc hn ha hi
  constructor
  · rintro ⟨h1, h2⟩
    have h3 := hND.2 h1
    refine ⟨fun i k hi' hk => ?_, by rw [List.length_append, List.length_singleton]; exact hb h3 h2, h3⟩
    have hS := h.snoc ha hi h2
    exact hS.com _ (List.getElem_mem _) _ (List.getElem_mem _)
  · rintro ⟨h1, _, h3⟩
    refine ⟨hND.1 h3, fun b hb' => ?_⟩
    obtain ⟨k, hk, rfl⟩ := List.getElem_of_mem hb'
    have := h1 l.length k (by simp) hk
    rw [List.getElem_append_left hk] at this
    simpa using this
end Go.Pm
end
section
/- How many permutations there are; the involutions of a group, told in two ways. Plain. -/
namespace Go.Pm
def words (n : Nat) : Nat → List (List Int)
  | 0 => [[]]
  | k + 1 => (words n k).flatMap fun l => (List.range n).map fun x : Nat => (x : Int) :: l
theorem words_mem (n : Nat) : ∀ (l : List Int), (∀ x ∈ l, 0 ≤ x ∧ x < n) → l ∈ words n l.length
  | [], _ => List.mem_singleton.2 rfl
  | x :: l, h => by
    have h1 := h x (by simp)
    refine List.mem_flatMap.2 ⟨l, words_mem n l (fun y hy => h y (List.mem_cons_of_mem _ hy)), List.mem_map.2 ⟨x.toNat, List.mem_range.2 (by omega), ?_⟩⟩
    rw [show (x.toNat : Int) = x by omega]
def allP (n : Nat) : List (List Int) := (words n n).filter fun a => decide a.Nodup
theorem allP_mem {n : Nat} {a : List Int} (h : Perm n a) : a ∈ allP n := by
  refine List.mem_filter.2 ⟨?_, decide_eq_true h.2.2⟩
  have := words_mem n a h.2.1
  rwa [h.1] at this
theorem perm_count {n : Nat} {S : List (List Int)} (hS : S.Nodup) (hp : ∀ a ∈ S, Perm n a) : S.length ≤ (allP n).length := hS.length_le_of_subset fun a ha => allP_mem (hp a ha)
theorem all0 : (allP 0).length = 1 := by decide
theorem all1 : (allP 1).length = 1 := by decide
theorem all2 : (allP 2).length = 2 := by decide
theorem all3 : (allP 3).length = 6 := by decide
set_option maxRecDepth 100000 in
theorem all4 : (allP 4).length = 24 := by decide
theorem pow_bound {k m : Nat} (h : 2 ^ k ≤ m) (n : Nat) (hm : m < 2 ^ (n + 1)) : k ≤ n := by
  apply Classical.byContradiction
  intro hlt
  have : 2 ^ (n + 1) ≤ 2 ^ k := Nat.pow_le_pow_right (by omega) (by omega)
  omega
/-- A small group, or one of few variables, has room for as many independent involutions as variables. -/
theorem room_few {n : Nat} {g : List (List Int)} (hg : g.Nodup) (hp : ∀ a ∈ g, Perm n a) (h : g.length ≤ 8 ∨ n ≤ 4) : ∀ k, 2 ^ k ≤ g.length → k ≤ n := by
  intro k hk
  have hc := perm_count hg hp
  by_cases h4 : n ≤ 4
  · have : n = 0 ∨ n = 1 ∨ n = 2 ∨ n = 3 ∨ n = 4 := by omega
    rcases this with rfl | rfl | rfl | rfl | rfl
    · rw [all0] at hc; exact pow_bound hk 0 (by omega)
    · rw [all1] at hc; exact pow_bound hk 1 (by omega)
    · rw [all2] at hc; exact pow_bound hk 2 (by omega)
    · rw [all3] at hc; exact pow_bound hk 3 (by omega)
    · rw [all4] at hc; exact pow_bound hk 4 (by omega)
  · have h8 : g.length ≤ 8 := by omega
    have := pow_bound hk 3 (by omega)
    omega
/-- What the two loops hold: what has been collected. -/
structure Coll (n : Nat) (g out : List (List Int)) : Prop where
  sub : Sub n out
  nodup : (prods n out).Nodup
  mem : ∀ a ∈ out, a ∈ g
theorem Coll.nil {n : Nat} (g : List (List Int)) : Coll n g [] := ⟨Sub.nil n, by rw [prods_nil]; simp, fun _ h => by cases h⟩
theorem Coll.snoc {n : Nat} {g out : List (List Int)} {a : List Int} (h : Coll n g out) (hp : ∀ a ∈ g, Perm n a) (ha : a ∈ g) (hi : cmp a a = unit n) (h1 : a ∉ prods n out) (h2 : ∀ b ∈ out, cmp a b = cmp b a) : Coll n g (out ++ [a]) :=
  ⟨h.sub.snoc (hp a ha) hi h2, (h.sub.nodup_snoc h.nodup (hp a ha) hi).2 h1, fun x hx => by
    rcases List.mem_append.1 hx with hx | hx
    · exact h.mem x hx
    · rw [List.mem_singleton.1 hx]; exact ha⟩
/-- Is it taken? -/
def Take (n : Nat) (out : List (List Int)) (a : List Int) : Prop := a ≠ unit n ∧ cmp a a = unit n ∧ a ∉ prods n out ∧ ∀ b ∈ out, cmp a b = cmp b a
instance (n : Nat) (out : List (List Int)) (a : List Int) : Decidable (Take n out a) := inferInstanceAs (Decidable (_ ∧ _ ∧ _ ∧ _))
end Go.Pm
end
section
/- The reference's closure (a stack, a list in order); permutations that are made by inserting. Plain. -/
namespace Go.Pm
open Go.Gr
theorem Bfs.popr {n : Nat} {gs S Q : List (List Int)} {a : List Int} (h : Bfs n gs S (Q ++ [a])) : Mid n gs S Q a 0 :=
  ⟨h.nodup, h.gen, h.one, h.wait a (by simp), fun x hx => h.wait x (List.mem_append_left _ hx), fun x hx => by
    rcases h.done x hx with h1 | h1
    · rcases List.mem_append.1 h1 with h1 | h1
      · exact .inl h1
      · exact .inr (.inl (List.mem_singleton.1 h1))
    · exact .inr (.inr h1), fun g hg => by simp at hg⟩
theorem Mid.congr {n : Nat} {gs S S' Q : List (List Int)} {a : List Int} {j : Nat} (h : Mid n gs S Q a j) (hn : S'.Nodup) (hs : ∀ x, x ∈ S' ↔ x ∈ S) : Mid n gs S' Q a j :=
  ⟨hn, fun x hx => h.gen x ((hs x).1 hx), (hs _).2 h.one, (hs _).2 h.cur, fun x hx => (hs x).2 (h.wait x hx), fun x hx => by
    rcases h.done x ((hs x).1 hx) with h1 | h1 | h1
    · exact .inl h1
    · exact .inr (.inl h1)
    · exact .inr (.inr fun g hg => (hs _).2 (h1 g hg)), fun g hg => (hs _).2 (h.part g hg)⟩
/-- A product that is new, put in its place. -/
theorem Mid.place {n : Nat} {gs S Q : List (List Int)} {a : List Int} {j m : Nat} (h : Mid n gs S Q a j) (hj : j < gs.length) (hA : Asc S) (hm : At S (cmp gs[j] a) m) (hn : cmp gs[j] a ∉ S) :
    Asc (S.take m ++ cmp gs[j] a :: S.drop m) ∧ Mid n gs (S.take m ++ cmp gs[j] a :: S.drop m) (Q ++ [cmp gs[j] a]) a (j + 1) := by
  have h1 := hm.insert hA hn
  exact ⟨h1, (h.new hj hn).congr h1.nodup fun x => by rw [ins_mem, List.mem_cons]⟩
theorem Mid.few {n : Nat} {gs S Q : List (List Int)} {a : List Int} {j : Nat} (h : Mid n gs S Q a j) (hn : n ≤ 6) (hg : ∀ g ∈ gs, Perm n g) : S.length ≤ 46656 := perm_few hn h.nodup fun x hx => (h.gen x hx).perm hg
theorem Bfs.few {n : Nat} {gs S Q : List (List Int)} (h : Bfs n gs S Q) (hn : n ≤ 6) (hg : ∀ g ∈ gs, Perm n g) : S.length ≤ 46656 := perm_few hn h.nodup fun x hx => (h.gen x hx).perm hg
theorem perm_zero : Perm 0 [] := ⟨rfl, ⟨fun x hx => absurd hx (by simp), List.nodup_nil⟩⟩
/-- One number more, at any place. -/
theorem perm_ins {i k : Nat} {out : List Int} (h : Perm i out) (hk : k ≤ i) : Perm (i + 1) (out.take k ++ (i : Int) :: out.drop k) := by
  have hm : ∀ x, x ∈ out.take k ++ (i : Int) :: out.drop k ↔ x = (i : Int) ∨ x ∈ out := fun x => by
    rw [List.mem_append, List.mem_cons]
    have e : x ∈ out ↔ x ∈ out.take k ∨ x ∈ out.drop k := by rw [← List.mem_append, List.take_append_drop]
    rw [e]
    constructor
    · rintro (h | h | h)
      · exact .inr (.inl h)
      · exact .inl h
      · exact .inr (.inr h)
    · rintro (h | h | h)
      · exact .inr (.inl h)
      · exact .inl h
      · exact .inr (.inr h)
  refine ⟨?_, fun x hx => ?_, ?_⟩
  · rw [List.length_append, List.length_cons, List.length_take, List.length_drop, h.1]; omega
  · rcases (hm x).1 hx with rfl | hx
    · omega
    · have := h.2.1 x hx; omega
  · have hp : (out.take k ++ (i : Int) :: out.drop k).Perm ((i : Int) :: out) := by
      refine List.perm_middle.trans (List.Perm.cons _ ?_)
      rw [List.take_append_drop]
    refine hp.nodup_iff.2 (List.nodup_cons.2 ⟨fun hi => ?_, h.2.2⟩)
    have := h.2.1 _ hi
    omega
end Go.Pm
end
section
/- closure of group: the products of generators, as a set of keys. -/
namespace Go.Proofs.Tg.Gp
open Go.RowKit Go.Gr Go.Sp Go.Ev Go.Pm
set_option maxHeartbeats 4000000
set_option maxRecDepth 100000
theorem prow_info : (Tryz.prog.info? 22).map (fun i => (i.zero, i.size, i.bytes)) = some (some (.slice none 0 0), 1, 24) := by kernel_rfl
/-- A row of the call's own: its block, its numbers. -/
abbrev PRow := Nat × List Int
def cellP (n : Nat) (r : PRow) : Value := .slice (some ⟨r.1, 0, none⟩) n n
def RowsB (w : World) (rs : List PRow) : Prop := ∀ r ∈ rs, Blk w r.1 3 (iarr r.2)
theorem RowsB.keep {w w' : World} {rs : List PRow} (h : RowsB w rs) (hb : Below w.heap.size w w') : RowsB w' rs := fun r hr => (h r hr).keep hb (h r hr).lt
theorem RowsB.turn {w w' : World} {rs : List PRow} {mb : Nat} (h : RowsB w rs) (hm : MapB w mb) (hg : w.grownBy w' (some mb)) : RowsB w' rs := fun r hr => (h r hr).turn hm hg
theorem RowsB.grown {w w' : World} {rs : List PRow} {base : Nat} {v : Value} {xs : List Value} (h : RowsB w rs) (hq : Que w base 22 v xs) (hg : w.grownBy w' v.ownBlock) : RowsB w' rs := fun r hr => (h r hr).grown hg (hq.ne (h r hr) (by decide))
theorem RowsB.snoc {w : World} {rs : List PRow} {g : Nat} {l : List Int} (h : RowsB w rs) (hB : Blk w g 3 (iarr l)) : RowsB w (rs ++ [(g, l)]) := by
  intro r hr
  rcases List.mem_append.1 hr with hr | hr
  · exact h r hr
  · rw [List.mem_singleton.1 hr]; exact hB
theorem Que.turn {w w' : World} {base : Nat} {e : TypeId} {v : Value} {xs : List Value} {mb : Nat} (h : Que w base e v xs) (hm : MapB w mb) (hg : w.grownBy w' (some mb)) : Que w' base e v xs := by
  obtain ⟨g, o, cap, cur, h1, h2, h3, h4⟩ := h
  refine ⟨g, o, cap, cur, h1, h2, (hg.block g (Array.getElem?_eq_some_iff.1 h3).1 (fun e => ?_)).trans h3, h4⟩
  injection e with e
  subst e
  obtain ⟨es, ck, hh⟩ := hm
  rw [hh] at h3
  cases h3
/-- What the outer loop of closure holds. -/
structure ClSt (w : World) (n : Nat) (gs : List (List Int)) (wr : World) (mb : Nat) (S : List (List Int)) (rs : List PRow) (v : Value) : Prop where
  below : Below w.heap.size w wr
  bfs : Bfs n gs S (rs.map Prod.snd)
  set : SetM wr mb S.length n S
  low : w.heap.size ≤ mb
  que : Que wr w.heap.size 22 v (rs.map (cellP n))
  rows : RowsB wr rs
/-- .. and the inner one. -/
structure ClMid (w : World) (n : Nat) (gs : List (List Int)) (wr : World) (mb : Nat) (S : List (List Int)) (rs : List PRow) (v : Value) (ga : Nat) (a : List Int) (j : Nat) : Prop where
  below : Below w.heap.size w wr
  mid : Mid n gs S (rs.map Prod.snd) a j
  set : SetM wr mb S.length n S
  low : w.heap.size ≤ mb
  que : Que wr w.heap.size 22 v (rs.map (cellP n))
  rows : RowsB wr rs
  cur : Blk wr ga 3 (iarr a)
theorem gp_closure (G : Option Addr) (cG n : Nat) (gs : List (List Int)) (w : World) (hG : Lists w G gs) (hp : ∀ g ∈ gs, Perm n g) (hn : n ≤ 6) (hl : gs.length ≤ 1000000) :
    Calls Tryz.prog 75 #[.int .i64 n, .slice G gs.length cG] w fun e w' => ∃ mb S, e = .returned (.map (some mb)) ∧ IsGen n gs S ∧ SetM w' mb S.length n S ∧ w.heap.size ≤ mb ∧ Below w.heap.size w w' := by
  have HG := Lib.hid hG
  have HP := Lib.hid hp
  have HID := Lib.hid (fun V => identity_any n V hn)
  have HKY : Hid (∀ V g a, Blk V g 3 (iarr a) → a.length = n → Calls Tryz.prog 76 #[.slice (some ⟨g, 0, none⟩) n n] V fun e w' => e = .returned (keyV a) ∧ Below V.heap.size V w') := Lib.hid (fun V g a h ha => by
    have := keyOf_any (some ⟨g, 0, none⟩) n a V (ints_blk h ha hn) (by omega)
    rw [ha] at this
    exact this)
  clear hG hp
  obtain ⟨j0, hj0, hjz0, hjz1, hjz2⟩ := info_parts prow_info
  have hmm := @run_makeMap Tryz.prog
  go_enter Tryz.func75, Tryz.ntmps75
  go_upto_region 2 with (go_at_call 97; refine (HID.out _).mono ?_; rintro e w1 ⟨rfl, hG1, hb1⟩)
  have hM := SetM.made w1 n
  have hal := Below.alloc (Below.refl w1.heap.size w1) (Nat.le_refl _) (.map #[] 0)
  have hG1x := hG1.keep hal hG1.lt
  have hb1x := below_all hb1 hal
  have hlow := hb1.size
  have HUL : Hid ((unit n).length = n) := Lib.hid (unit_len n)
  have hUD := perm_dom hn (unit_perm n)
  have HBF := Lib.hid (Bfs.start n gs)
  generalize unit n = u at *
  go_wp2_with (go_at_call 76; refine (HKY.out _ _ _ hG1x HUL.out).mono ?_; rintro e w2 ⟨rfl, hb2⟩
               have hM2 := hM.below hb2 hM.lt
               have hm2 := hM2.mapB
               obtain ⟨w3, hrun, hS3, hg3⟩ := hM2.put hn (by omega) hUD (by simp))
  have hm2l := hM.lt
  have hb3 := bturn (below_all hb1x hb2) hm2 hg3 hlow
  have hG3 := (hG1x.keep hb2 hG1x.lt).turn hm2 hg3
  have hS4 := hS3
  have hal3 := Below.alloc (Below.refl w3.heap.size w3) (Nat.le_refl _) (.cells #[.slice (some ⟨w.heap.size, 0, none⟩) n n] 22)
  have hGq := hG3.alloc (.cells #[.slice (some ⟨w.heap.size, 0, none⟩) n n] 22)
  have hSq := hS4.below hal3 hS4.lt
  have hbq := hb3.alloc hb3.size (.cells #[.slice (some ⟨w.heap.size, 0, none⟩) n n] 22)
  have hQq : Que (w3.alloc (.cells #[.slice (some ⟨w.heap.size, 0, none⟩) n n] 22)) w.heap.size 22 (.slice (some ⟨w3.heap.size, 0, none⟩) 1 1) ([(w.heap.size, u)].map (cellP n)) := Que.of_blk (xs := [cellP n (w.heap.size, u)]) (Blk.new _ _ _) hb3.size (by simp [maxLen])
  clear hM hM2 hm2 hS3 hg3 hrun hal hG1 hG1x hb1x hb2 hb3 hG3 hS4 hal3 hUD hb1 HID
  generalize w3.alloc (.cells #[.slice (some ⟨w.heap.size, 0, none⟩) n n] 22) = W at *
  generalize w3.heap.size = gq at *
  generalize w1.heap.size = mb at *
  clear hmm
  go_loopg [7] 46656 (fun m s7 wr => ∃ (S : List (List Int)) (rs : List PRow), Hid (ClSt w n gs wr mb S rs s7) ∧ 46656 - S.length + rs.length ≤ m ∧ rs.length ≤ S.length)
  case atStart => exact ⟨[u], [(w.heap.size, u)], Lib.hid ⟨hbq, HBF.out, hSq, hlow, hQq, fun r hr => by rw [List.mem_singleton.1 hr]; exact hGq⟩, by simp, by simp⟩
  case round =>
    clear hbq hSq hQq hGq
    obtain ⟨wo, rfl⟩ : ∃ wo : World, wo = wr := ⟨_, rfl⟩
    obtain ⟨S, rs, HST, hm, hrs⟩ := hrel
    have hSl := HST.out.bfs.few hn HP.out
    cases rs with
    | nil =>
      obtain ⟨g, o, cap, cur, rfl, _⟩ := HST.out.que
      go_wp2
      go_ret
      exact ⟨mb, S, rfl, HST.out.bfs.fin, HST.out.set, hlow, HST.out.below⟩
    | cons r rs =>
      obtain ⟨gr, a⟩ := r
      obtain ⟨g, o, cap, rfl, hc, hcap⟩ := HST.out.que.head
      have hqt := HST.out.que.tail
      rw [List.length_map] at hqt
      have HMI := Lib.hid (HST.out.bfs.pop)
      have hra := HST.out.rows (gr, a) (by simp)
      have HMD : Hid (ClMid w n gs wo mb S rs (.slice (some ⟨g, o + 1, none⟩) rs.length (cap - 1)) gr a 0) := Lib.hid ⟨HST.out.below, HMI.out, HST.out.set, hlow, hqt, fun r hr => HST.out.rows r (List.mem_cons_of_mem _ hr), hra⟩
      rw [List.length_cons] at hm hrs
      have HR0 : Hid (cap = 1 → rs = [] ∧ ClMid w n gs wo mb S rs (.slice (some ⟨g, o, none⟩) 0 0) gr a 0) := Lib.hid (fun h1 => by
        obtain ⟨g', o', cap', cur, e1, e2, e3, e4, e5, e6, e7⟩ := HST.out.que
        injection e1 with e1 _ ec
        injection e1 with e1
        injection e1 with eg eo
        subst eg eo ec
        simp at e4
        have hr0 : rs = [] := List.eq_nil_of_length_eq_zero (by omega)
        subst hr0
        exact ⟨rfl, HST.out.below, HMI.out, HST.out.set, hlow, ⟨g, o, 0, cur, rfl, e2, e3, Nat.zero_le _, by simp [maxLen], by omega, fun j u hu => by simp at hu⟩, fun r hr => by simp at hr, hra⟩)
      clear hqt HMI hra
      have hcell : (cellP n (gr, a)) = .slice (some ⟨gr, 0, none⟩) n n := rfl
      rw [hcell] at hc
      clear hcell
      go_upto_region 6 with (fail)
      go_cut [7] (fun s7 wx => Hid (ClMid w n gs wx mb S rs s7 gr a 0))
      case first =>
        by_cases hc1 : cap = 1
        · obtain ⟨h1, h2⟩ := HR0.out hc1
          subst hc1
          subst h1
          go_wp2
          go_meet
          exact Lib.hid h2
        · have hcf : (cap = 1) = False := eq_false hc1
          go_wp2
          go_meet
          exact HMD
      case rest =>
        have HMD := hcut
        obtain ⟨wx, rfl⟩ : ∃ wx : World, wx = wc := ⟨_, rfl⟩
        clear hcut HR0 HST hc hcap
        go_wp2
        go_loopw [30, 7] (fun s30 s7 wr => ∃ (j : Nat) (S' : List (List Int)) (rs' : List PRow), s30 = .int .i64 j ∧ j ≤ gs.length ∧ Hid (ClMid w n gs wr mb S' rs' s7 gr a j) ∧ 46656 - S'.length + rs'.length < gk ∧ rs'.length + 1 ≤ S'.length) (fun s30 _ _ => gs.length - (intOf s30).toNat)
        case atStart => exact ⟨0, S, rs, rfl, Nat.zero_le _, HMD, by omega, hrs⟩
        case round =>
          clear HMD
          obtain ⟨wi, rfl⟩ : ∃ wi : World, wi = wr := ⟨_, rfl⟩
          obtain ⟨j, S2, rs2, rfl, hj, HMD, hm2, hrs2⟩ := hrel
          have hbi := HMD.out.below
          have hS2 := HMD.out.mid.few hn HP.out
          obtain ⟨gq2, o2, cap2, cur2, rfl, hq2⟩ := HMD.out.que
          rw [List.length_map] at *
          by_cases hjl : j < gs.length
          · obtain ⟨ad, E, ce, rfl, hcg, hE⟩ := (HG.out.keep hbi).at hjl
            have hpg := HP.out gs[j] (List.getElem_mem _)
            have hpa : Perm n a := (HMD.out.mid.gen a HMD.out.mid.cur).perm HP.out
            have q0 : (0 : Int) ≤ (j : Int) := by omega
            have q1 : (j : Int) < (gs.length : Int) := by omega
            have q3 : ((j : Int)).toNat = j := by omega
            rw [hpg.1] at hcg
            have hia := ints_blk HMD.out.cur hpa.1 hn
            have HCP := Lib.hid (compose_any E (some ⟨gr, 0, none⟩) ce n n gs[j] a wi hE hia hpg hpa hn)
            have hpc := cmp_perm hpg hpa
            have hdc := perm_dom hn hpc
            clear hE hia
            by_cases hin : cmp gs[j] a ∈ S2
            · have HO := Lib.hid (HMD.out.mid.old hjl hin)
              have hdec : decide (cmp gs[j] a ∈ S2) = true := decide_eq_true hin
              clear hin
              generalize cmp gs[j] a = b at *
              go_wp2_with (first
                | (go_at_call 98; refine HCP.out.mono ?_; rintro e w4 ⟨rfl, hG4, hb4⟩)
                | (go_at_call 76; refine (HKY.out _ _ _ hG4 hpc.1).mono ?_; rintro e w5 ⟨rfl, hb5⟩
                   have hb45 := below_all hb4 hb5
                   have hlook := (HMD.out.set.below hb45 HMD.out.set.lt).look hdc hdec))
              go_roundw
              case rel => exact ⟨j + 1, S2, rs2, by go_num, by omega, Lib.hid ⟨below_all hbi hb45, HO.out, HMD.out.set.below hb45 HMD.out.set.lt, hlow, HMD.out.que.below hb45, HMD.out.rows.keep hb45, HMD.out.cur.keep hb45 HMD.out.cur.lt⟩, hm2, hrs2⟩
              case measure => simp [intOf]; omega
            · have HO := Lib.hid (HMD.out.mid.new hjl hin)
              have hdec : decide (cmp gs[j] a ∈ S2) = false := decide_eq_false hin
              have HNI := Lib.hid hin
              clear hin
              generalize cmp gs[j] a = b at *
              have hqlen : rs2.length ≤ 46656 := by omega
              go_wp2_with (first
                | (go_at_call 98; refine HCP.out.mono ?_; rintro e w4 ⟨rfl, hG4, hb4⟩)
                | (go_at_call 76
                   first
                     | (have hb45' := hb45
                        refine (HKY.out _ _ _ (hG4.keep hb5 hG4.lt) hpc.1).mono ?_; rintro e w6 ⟨rfl, hb6⟩
                        clear hlook
                        have hb46 := below_all hb45 hb6
                        have hM6 := HMD.out.set.below hb46 HMD.out.set.lt
                        have hm6 := hM6.mapB
                        obtain ⟨w7, hrun, hS7, hg7⟩ := hM6.put hn (by omega) hdc HNI.out)
                     | (refine (HKY.out _ _ _ hG4 hpc.1).mono ?_; rintro e w5 ⟨rfl, hb5⟩
                        have hb45 := below_all hb4 hb5
                        have hlook := (HMD.out.set.below hb45 HMD.out.set.lt).look hdc hdec))
                | (at_builtin
                   have hG7 := ((hG4.keep hb5 hG4.lt).keep hb6 (hG4.keep hb5 hG4.lt).lt).turn hm6 hg7
                   have hQ7 := Que.turn (HMD.out.que.below hb46) hm6 hg7
                   have hR7 := (HMD.out.rows.keep hb46).turn hm6 hg7
                   have hC7 := (HMD.out.cur.keep hb46 HMD.out.cur.lt).turn hm6 hg7
                   have hb7 := bturn (below_all hbi hb46) hm6 hg7 hlow
                   have hal7 := Below.alloc (Below.refl w7.heap.size w7) (Nat.le_refl _) (.cells #[.slice (some ⟨wi.heap.size, 0, none⟩) n n] 22)
                   refine wpList_que_append _ rfl _ _ 23 rfl w.heap.size 22 j0 (.slice none 0 0) 24 Tryz.underlying23 hj0 hjz0 hjz1 hjz2 rfl _ (rs2.map (cellP n)) rfl (hQ7.below hal7) ⟨w7.heap.size, 0, none⟩ 1 (.slice (some ⟨wi.heap.size, 0, none⟩) n n) rfl ((Blk.new w7 22 #[.slice (some ⟨wi.heap.size, 0, none⟩) n n]).cell 0) (by simp [Value.oneCell']) (by simp [maxLen]; omega) (by simp; omega) (by have := hb7.size; simp; omega) ?_
                   intro v8 w8 hQ8 hg8 _ _))
              go_roundw
              case rel =>
                have hSx := hS7.below hal7 hS7.lt
                have hfew := HO.out.few hn HP.out
                rw [List.length_cons] at hfew
                refine ⟨j + 1, b :: S2, rs2 ++ [(wi.heap.size, b)], by go_num, by omega, Lib.hid ⟨?_, ?_, ?_, hlow, ?_, ?_, ?_⟩, by simp; omega, by simp; omega⟩
                · exact (hb7.alloc hb7.size _).grown hg8 (by have := hb7.size; simp; omega) (fun q hq => by
                    obtain ⟨g9, e9, h9, _⟩ := hQ7.blk
                    have h10 := e9.symm.trans hq
                    injection h10 with h10
                    omega)
                · rw [List.map_append]; exact HO.out
                · refine hSx.grown hg8 (fun e => ?_)
                  obtain ⟨es, ck, hh⟩ := hSx.mapB
                  obtain ⟨g9, o9, cap9, cur9, e9, _, h9, _⟩ := hQ7.below hal7
                  rw [e9] at e
                  injection e with e
                  subst e
                  rw [h9] at hh
                  cases hh
                · rw [List.map_append]; exact hQ8
                · exact ((hR7.keep hal7).grown (hQ7.below hal7) hg8).snoc ((hG7.alloc _).grown hg8 ((hQ7.below hal7).ne (hG7.alloc _) (by decide)))
                · exact (hC7.alloc _).grown hg8 ((hQ7.below hal7).ne (hC7.alloc _) (by decide))
              case measure => simp [intOf]; omega
          · obtain rfl : j = gs.length := by omega
            have HF := Lib.hid (HMD.out.mid.fin)
            have HFS : Hid (ClSt w n gs wi mb S2 rs2 (.slice (some ⟨gq2, o2, none⟩) rs2.length cap2)) := Lib.hid ⟨HMD.out.below, HF.out, HMD.out.set, hlow, HMD.out.que, HMD.out.rows⟩
            have dk : decide ((gs.length : Int) < (gs.length : Int)) = false := by simp
            go_wp2
            go_roundg (46656 - S2.length + rs2.length)
            case measure => omega
            case rel => exact ⟨S2, rs2, HFS, by omega, by omega⟩
end Go.Proofs.Tg.Gp
end
