/- Rows of pairs that the call makes: what they read as, and append on them. -/
import Derived.Test.YteceagldjnfeeaaDoorMk1
import Derived.Test.YteceagldjnfeeaaDoorPts
import Derived.Deep.AppendLies
namespace Go.Proofs.YteceagldjnfeeaaDoor
open Go.RowKit
set_option linter.unusedVariables false
set_option linter.unusedSimpArgs false

theorem wp_app_bk {w w0 : World} {o : Oper} {ac : Act} {K : Act → World → Prop} {Q : Exit → Act → World → Prop} (s x : Operand)
    (ho : o.op = .call { callee := .builtin .append, args := #[s, x], argTypes := #[22, 22] })
    (v : Value) (l : List UInt8) (hs : ac.eval s = v) (HO : Hid (w.ownsRow w0.heap.size 5 1 v l.length (bts l))) (HB : Hid (Below w0.heap.size w0 w))
    (a : Option Addr) (m c : Nat) (news : List UInt8) (hx : ac.eval x = .slice a m c) (hsl : Hid (Bs w a m c news)) (hlen : Hid (l.length + m ≤ 140737488355328))
    (h : ∀ v' w', Hid (w'.ownsRow w0.heap.size 5 1 v' (l ++ news).length (bts (l ++ news))) → Hid (Below w0.heap.size w0 w') → K (ac.put o.dst v') w') :
    Oper.wp Tryd.prog o ac w K Q := by
  have hl : l.length + m ≤ 140737488355328 := hlen
  obtain ⟨i, hi, hzz⟩ := Option.map_eq_some_iff.1 info5
  simp only [Prod.mk.injEq] at hzz
  obtain ⟨hz0, hz1, hz2⟩ := hzz
  obtain ⟨v', w', hr, ho', hg', _⟩ := run_append_own_src (P := Tryd.prog) w w0.heap.size 22 o.type 5 i (.int .u8 0) 1 Tryd.underlying22 hi hz0 hz1 hz2 rfl v l.length (bts l) HO.out a m c (bts news) hsl.out (bts_one _) (by unfold maxLen; omega) (by omega) HB.out.size
  unfold Oper.wp execOp
  simp only [ho, resolve, invoke, builtin, Sem.run_bind, Sem.run_pure, Result.andThen_ok, List.map_toArray, List.map_cons, List.map_nil, hs, hx, hr]
  refine h v' w' ?_ (HB.out.grown hg' HB.out.size fun j hj => (HO.out.lt j hj).1)
  have hb : news.length = m := hsl.out.blen
  rw [List.length_append, bts_append, hb]
  exact ho'
theorem step_app_bk {w w0 : World} {ops : Array Oper} {o : Oper} {ac : Act} {K : Act → World → Prop} {Q : Exit → Act → World → Prop} {E : Prop} (hgd : o.guard = none) (s x : Operand)
    (ho : o.op = .call { callee := .builtin .append, args := #[s, x], argTypes := #[22, 22] })
    (v : Value) (l : List UInt8) (hs : ac.eval s = v) (HO : Hid (w.ownsRow w0.heap.size 5 1 v l.length (bts l))) (HB : Hid (Below w0.heap.size w0 w))
    (a : Option Addr) (m c : Nat) (news : List UInt8) (hx : ac.eval x = .slice a m c) (hsl : Hid (Bs w a m c news)) (hlen : Hid (l.length + m ≤ 140737488355328))
    (h : ∀ v' w', Hid (w'.ownsRow w0.heap.size 5 1 v' (l ++ news).length (bts (l ++ news))) → Hid (Below w0.heap.size w0 w') → K (ac.put o.dst v') w') :
    if Region.wanted o (yielded ops ac.tmps) = true then Oper.wp Tryd.prog o ac w K Q else E := by
  rw [if_pos (by simp [Region.wanted, hgd])]
  exact wp_app_bk s x ho v l hs HO HB a m c news hx hsl hlen h


theorem info45 : (Tryd.prog.info? 45).map (fun i => (i.zero, i.size, i.bytes)) = some (some (.agg #[.string ByteArray.empty, .slice none 0 0]), 2, 40) := by kernel_rfl
/-- The cells of a row of pairs. -/
def kvrow : List KV → List Value → List Value
  | p :: ps, v :: vs => str p.1 :: v :: kvrow ps vs
  | _, _ => []
theorem kvrow_snoc (ps : List KV) (vs : List Value) (p : KV) (v : Value) (h : vs.length = ps.length) : kvrow (ps ++ [p]) (vs ++ [v]) = kvrow ps vs ++ [str p.1, v] := by
  induction ps generalizing vs with
  | nil =>
    obtain rfl : vs = [] := List.eq_nil_of_length_eq_zero h
    rfl
  | cons q ps ih =>
    cases vs with
    | nil => simp at h
    | cons u vs =>
      show str q.1 :: u :: kvrow (ps ++ [p]) (vs ++ [v]) = _
      rw [ih vs (by simpa using h)]
      rfl
theorem kvrow_key (ps : List KV) (vs : List Value) (h : vs.length = ps.length) (j : Nat) (hj : j < ps.length) : (kvrow ps vs)[j * 2]? = some (str ps[j].1) ∧ (kvrow ps vs)[j * 2 + 1]? = some (vs[j]'(by omega)) := by
  induction ps generalizing vs j with
  | nil => simp at hj
  | cons q ps ih =>
    cases vs with
    | nil => simp at h
    | cons u vs =>
      cases j with
      | zero => exact ⟨rfl, rfl⟩
      | succ j =>
        have e1 : (j + 1) * 2 = j * 2 + 1 + 1 := by omega
        have e2 : (j + 1) * 2 + 1 = j * 2 + 1 + 1 + 1 := by omega
        obtain ⟨h1, h2⟩ := ih vs (by simpa using h) j (by simpa using hj)
        exact ⟨by rw [e1]; exact h1, by rw [e2]; exact h2⟩

structure OwnP (B : Nat) (w : World) (v : Value) (ps : List KV) : Prop where
  ex : ∃ vs : List Value, vs.length = ps.length ∧ w.ownsRow B 45 2 v ps.length (kvrow ps vs) ∧ Pts w 0 vs (ps.map (·.2))
theorem OwnP.below {B : Nat} {w w1 : World} {v : Value} {ps : List KV} (h : OwnP B w v ps) (hb : Below w.heap.size w w1) : OwnP B w1 v ps := by
  obtain ⟨vs, h1, h2, h3⟩ := h.ex
  exact ⟨vs, h1, h2.kept (row := none) ⟨hb.os, hb.tape, hb.output, hb.size, fun i hi _ => hb.block i hi⟩ (by cases v.ownBlock <;> simp), h3.later hb⟩
theorem OwnP.lt {B : Nat} {w : World} {v : Value} {ps : List KV} (h : OwnP B w v ps) (g : Nat) (hg : v.ownBlock = some g) : g < w.heap.size := by
  obtain ⟨vs, h1, h2, h3⟩ := h.ex
  exact (h2.lt g hg).2
theorem OwnP.nil (B : Nat) (w : World) : OwnP B w (.slice none 0 0) [] := ⟨[], rfl, World.ownsRow_nil _ _ _ _, .nil⟩
theorem OwnP.prs {B : Nat} {w : World} {v : Value} {ps : List KV} (h : OwnP B w v ps) : ∃ a c, v = .slice a ps.length c ∧ Prs w 0 a ps.length c ps := by
  obtain ⟨vs, h1, h2, h3⟩ := h.ex
  rcases h2.2 with ⟨rfl, h0⟩ | ⟨g, cap, cur, rfl, hb, hg, hnc, hm, hs, ht⟩
  · obtain rfl : ps = [] := List.eq_nil_of_length_eq_zero h0
    exact ⟨none, 0, rfl, Prs.nil w 0⟩
  · refine ⟨_, cap, rfl, rfl, hnc, hm, fun j hj => ?_⟩
    obtain ⟨k1, k2⟩ := kvrow_key ps vs h1 j hj
    have hj2 : j < vs.length := by omega
    have c1 := h2.cells (g := g) rfl (j * 2) _ k1
    have c2 := h2.cells (g := g) rfl (j * 2 + 1) _ k2
    rw [show (⟨g, 0, none⟩ : Addr).add (j * 2) = ⟨g, 0 + j * 2, none⟩ by unfold Addr.add; split <;> simp_all] at c1
    rw [show (⟨g, 0, none⟩ : Addr).add (j * 2 + 1) = ⟨g, 0 + j * 2 + 1, none⟩ by unfold Addr.add; split <;> simp_all] at c2
    have hp := h3.get j hj2 (by rw [List.length_map]; exact hj)
    have e1 : keyAt ps j = ps[j].1 := by unfold keyAt; rw [List.getD_eq_getElem?_getD, List.getElem?_eq_getElem hj]; rfl
    have e2 : valAt ps j = ps[j].2 := by unfold valAt; rw [List.getD_eq_getElem?_getD, List.getElem?_eq_getElem hj]; rfl
    rw [e1, e2]
    rw [List.getElem_map] at hp
    exact ⟨g, 0, vs[j], rfl, c1, c2, hp⟩

/-- append(s, Pair{..}) at a step of a region that draws its order: the element stands in a new block. -/
theorem step_app_p {w w0 : World} {ops : Array Oper} {o : Oper} {ac : Act} {K : Act → World → Prop} {Q : Exit → Act → World → Prop} {E : Prop} (hgd : o.guard = none) (s x : Operand)
    (ho : o.op = .call { callee := .builtin .append, args := #[s, x], argTypes := #[42, 42] })
    (v : Value) (ps : List KV) (hs : ac.eval s = v) (HO : Hid (OwnP w0.heap.size w v ps)) (HB : Hid (Below w0.heap.size w0 w))
    (k : List UInt8) (xv : Value) (l : List UInt8) (hx : ac.eval x = .slice (some ⟨w.heap.size, 0, none⟩) 1 1) (hp : Hid (Pt w 0 xv l)) (hlen : Hid (ps.length ≤ 3518437208780)) (M : Nat) (hM : Hid (∀ g, v.ownBlock = some g → g < M))
    (h : ∀ v' w', Hid (OwnP w0.heap.size w' v' (ps ++ [(k, l)])) → Hid (Below w0.heap.size w0 w') → Hid (∀ b q u, M ≤ b → w.cell? ⟨b, q, none⟩ = some u → w'.cell? ⟨b, q, none⟩ = some u) → K (ac.put o.dst v') w') :
    if Region.wanted o (yielded ops ac.tmps) = true then Oper.wp Tryd.prog o ac (w.alloc (.cells #[str k, xv] 45)) K Q else E := by
  obtain ⟨vs, h1, h2, h3⟩ := HO.out.ex
  have hl : ps.length ≤ 3518437208780 := hlen
  have hb : Below w.heap.size w (w.alloc (.cells #[str k, xv] 45)) := (row_below w _).out
  have hB' := below_then HB.out HB.out.size hb
  have h2' : (w.alloc (.cells #[str k, xv] 45)).ownsRow w0.heap.size 45 2 v ps.length (kvrow ps vs) := h2.kept (row := none) ⟨hb.os, hb.tape, hb.output, hb.size, fun i hi _ => hb.block i hi⟩ (by cases v.ownBlock <;> simp)
  obtain ⟨i, hi, hzz⟩ := Option.map_eq_some_iff.1 info45
  simp only [Prod.mk.injEq] at hzz
  obtain ⟨hz0, hz1, hz2⟩ := hzz
  have hone : ∀ u ∈ [str k, xv], u.oneCell' = true := by
    intro u hu
    obtain ⟨a, n, c, e, _⟩ := hp.out
    simp only [List.mem_cons, List.not_mem_nil, or_false] at hu
    rcases hu with rfl | rfl
    · rfl
    · subst e; rfl
  refine step_append_lies _ hgd s x 42 ho w0.heap.size 45 i _ 2 40 Tryd.underlying42 hi hz0 hz1 hz2 rfl (by omega) v ps.length (kvrow ps vs) hs h2'
    ⟨w.heap.size, 0, none⟩ 1 1 [str k, xv] hx rfl (World.news_of_block (cs := #[str k, xv]) (t := 45) (fr := (0, 0)) (heap_alloc_new w _)) hone (by omega) (by unfold maxLen; omega) (by omega) (Nat.le_trans HB.out.size hb.size) _ rfl ?_
  intro g cap w' ho' hg' _ _
  have hkeep : Hid (∀ b q u, M ≤ b → w.cell? ⟨b, q, none⟩ = some u → w'.cell? ⟨b, q, none⟩ = some u) := fun b q u hb2 hu => by
    have hlt : b < w.heap.size := World.block_lt_of_cell? w _ hu
    have h5 := below_cell hb hu
    have hlt2 : b < (w.alloc (.cells #[str k, xv] 45)).heap.size := Nat.lt_of_lt_of_le hlt hb.size
    have e := hg'.block b hlt2 (fun e2 => by have := hM.out b e2.symm; omega)
    unfold World.cell? at h5 ⊢
    simp only at h5 ⊢
    rw [e]; exact h5
  refine h _ _ ?_ (hB'.grown hg' hB'.size fun j hj => (HO.out.ex.choose_spec.2.1.lt j hj).1) hkeep
  refine ⟨vs ++ [xv], by simp [h1], ?_, ?_⟩
  · rw [List.length_append, kvrow_snoc _ _ _ _ h1]; exact ho'
  · rw [List.map_append]
    have hp0 := h3.later hb
    have hx0 := hp.out.below hb
    rcases hv : v.ownBlock with _ | g2
    · rw [hv] at hg'
      have hbb : Below (w.alloc (.cells #[str k, xv] 45)).heap.size (w.alloc (.cells #[str k, xv] 45)) w' := ⟨hg'.os, hg'.tape, hg'.output, hg'.size, fun k hk => hg'.block k hk (by simp)⟩
      exact (hp0.later hbb).snoc (hx0.below hbb)
    · rw [hv] at hg'
      rcases h2'.2 with ⟨e2, _⟩ | ⟨g3, cap3, cur, e2, hg2, hgc, _⟩
      · rw [e2] at hv; cases hv
      · rw [e2] at hv
        cases hv
        exact (hp0.kept hg' (Nat.zero_le _) hgc (by decide)).snoc (hx0.kept hg' (Nat.zero_le _) hgc (by decide))
end Go.Proofs.YteceagldjnfeeaaDoor
