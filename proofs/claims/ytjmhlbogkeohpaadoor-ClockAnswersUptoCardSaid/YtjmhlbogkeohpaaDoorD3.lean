/- Contracts of the program's functions, shown by walks of that machine, and the plain laws. -/
import Derived.Test.YtjmhlbogkeohpaaDoorD2
namespace Go.Proofs.YtjmhlbogkeohpaaDoor
open Go.Ab
set_option maxRecDepth 100000

theorem pick_lit (t : Tp) (ht : t.ok) (l : List Int) (f : Bool) (hl : l.length ≠ 0 ∧ l.length ≤ 1000000) : S 37 [.ptr 0 0 0, .sl 1 l.length f (listG (l.map iV))] [tapeO t] (iV (t.pick l).1) [tapeO (t.pick l).2] :=
  (pick_spec t ht l hl).le ⟨.refl _, le_lit l f, trivial⟩ ⟨LeL.refl _, trivial⟩

theorem le_one (x : Int) : ∀ i, i < 1 → Le (listG [iV x] i) (rowG iV 0 [x] i) := fun i h => by
  cases i with
  | zero => exact .refl _
  | succ i => omega

theorem ordG_len (n : Nat) (i : Int) (acc : List Int) (t : Tp) : (ordG n i acc t).1.length = acc.length + n := by
  induction n generalizing i acc t with
  | zero => rfl
  | succ n ih =>
    have hb := Tp.n_lt t (acc.length + 1)
    rw [ordG, ih]
    simp
    omega

theorem ordG_ok {t : Tp} (ht : t.ok) (n : Nat) (i : Int) (acc : List Int) : (ordG n i acc t).2.ok := by
  induction n generalizing i acc t with
  | zero => exact ht
  | succ n ih => exact ih (Tp.n_ok ht (acc.length + 1)) _ _

def kindL : List Int := [1, 2, 2, 3, 3, 4, 4, 5, 5]
def facL : List Int := [1, 2, 3, 4, 5, 8, 64]
def facN : Nat → List Int → Tp → List Int × Tp
  | 0, acc, t => (acc, t)
  | r + 1, acc, t => facN r (bif !acc.contains (t.pick facL).1 then acc ++ [(t.pick facL).1] else acc) (t.pick facL).2
def parN (k : Int) : Nat → List Int → Tp → List Int × Tp
  | 0, acc, t => (acc, t)
  | r + 1, acc, t => parN k r (acc ++ [(t.n k).1]) (t.n k).2
def limF (c : Clk × Tp) : Clk × Tp :=
  bif (c.2.n 5).1 == 0 then (⟨c.1.kind, c.1.par, c.1.ch, ((c.2.n 5).2.pick [0, 1, 10, 100]).1, ((c.2.n 5).2.pick [0, 1, 10, 100]).1 + (((c.2.n 5).2.pick [0, 1, 10, 100]).2.pick [0, 20, 200, 1000000000]).1⟩, (((c.2.n 5).2.pick [0, 1, 10, 100]).2.pick [0, 20, 200, 1000000000]).2)
  else (c.1, (c.2.n 5).2)
def selF (kind : Int) (e : List Int × Tp) : Clk × Tp :=
  (⟨kind, e.1, (ordG e.1.length 0 [] e.2).1.take ((ordG e.1.length 0 [] e.2).2.range 1 (ordG e.1.length 0 [] e.2).1.length).1.toNat, 0, 0⟩, ((ordG e.1.length 0 [] e.2).2.range 1 (ordG e.1.length 0 [] e.2).1.length).2)
def facF (kind p : Int) (e : List Int × Tp) : Clk × Tp := (⟨kind, [p], e.1, 0, 0⟩, e.2)
def oneF (t : Tp) (k : Int) : Clk × Tp :=
  bif (t.pick kindL).1 == 1 then limF (⟨(t.pick kindL).1, [], [((t.pick kindL).2.pick [10, 12, 32, 24000000]).1], 0, 0⟩, ((t.pick kindL).2.pick [10, 12, 32, 24000000]).2)
  else bif ((t.pick kindL).1 == 2) || ((t.pick kindL).1 == 3) then limF (facF (t.pick kindL).1 ((t.pick kindL).2.n k).1 (facN (((t.pick kindL).2.n k).2.range 1 4).1.toNat [] (((t.pick kindL).2.n k).2.range 1 4).2))
  else bif (t.pick kindL).1 == 4 then limF (selF (t.pick kindL).1 (parN k ((t.pick kindL).2.range 1 3).1.toNat [] ((t.pick kindL).2.range 1 3).2))
  else limF (⟨(t.pick kindL).1, [((t.pick kindL).2.n k).1], [0, 1], 0, 0⟩, ((t.pick kindL).2.n k).2)

theorem limF_t {c : Clk} {t : Tp} {z p q : Int × Tp} (hz : t.n 5 = z) (h : (z.1 == 0) = true) (hp : z.2.pick [0, 1, 10, 100] = p) (hq : p.2.pick [0, 20, 200, 1000000000] = q) : limF (c, t) = (⟨c.kind, c.par, c.ch, p.1, p.1 + q.1⟩, q.2) := by
  unfold limF
  simp only
  rw [hz, h, hp, hq]
  rfl
theorem limF_f {c : Clk} {t : Tp} {z : Int × Tp} (hz : t.n 5 = z) (h : (z.1 == 0) = false) : limF (c, t) = (c, z.2) := by
  unfold limF
  simp only
  rw [hz, h]
  rfl

theorem pick_low (t : Tp) : 0 ≤ (t.pick [0, 1, 10, 100]).1 ∧ (t.pick [0, 1, 10, 100]).1 ≤ 100 := by
  have := Tp.pick_mem t [0, 1, 10, 100] (by decide)
  simp only [List.mem_cons, List.not_mem_nil, or_false] at this
  omega
theorem pick_high (t : Tp) : 0 ≤ (t.pick [0, 20, 200, 1000000000]).1 ∧ (t.pick [0, 20, 200, 1000000000]).1 ≤ 1000000000 := by
  have := Tp.pick_mem t [0, 20, 200, 1000000000] (by decide)
  simp only [List.mem_cons, List.not_mem_nil, or_false] at this
  omega
theorem lim_i64 (t t' : Tp) : InI64 ((t.pick [0, 1, 10, 100]).1 + (t'.pick [0, 20, 200, 1000000000]).1) := by
  have := pick_low t
  have := pick_high t'
  unfold InI64
  omega

theorem le_lit1 (x : Int) (f : Bool) : Le (.sl 1 1 f (listG [iV x])) (intsV [x]) := le_lit [x] f

theorem one_spec (t : Tp) (ht : t.ok) (k : Int) (hk : 0 ≤ k ∧ k ≤ 1000) : S 38 [.ptr 0 0 0, iV k] [tapeO t] (clkV (oneF t k).1) [tapeO (oneF t k).2] := by
  refine spec_of_x (ct := []) cfgOK Tryd.func38 rfl rfl (Nat.le_of_ble_eq_true rfl) (by decide +kernel) (Nat.le_refl _) ?_
  conv => whnf
  have sa := pick_lit t ht kindL true (by decide)
  have oa : (t.pick kindL).2.ok := Tp.pick_ok ht kindL
  generalize ha : t.pick kindL = a at sa oa
  refine ⟨_, _, sa, ?_⟩
  conv => whnf
  refine bcase_of (fun k1 => ?_) (fun k1 => ?_)
  · have k1 : (a.1 == 1) = true := k1
    conv => whnf
    have sb := pick_lit a.2 oa [10, 12, 32, 24000000] true (by decide)
    have ob : (a.2.pick [10, 12, 32, 24000000]).2.ok := Tp.pick_ok oa _
    generalize hb : a.2.pick [10, 12, 32, 24000000] = b at sb ob
    refine ⟨_, _, sb, ?_⟩
    conv => whnf
    have e : oneF t k = limF (⟨a.1, [], [b.1], 0, 0⟩, b.2) := by unfold oneF; rw [ha, k1, hb]; rfl
    rw [e]
    have sz := n_spec b.2 ob 5 (by unfold InI64; omega)
    have oz : (Tp.n b.2 5).2.ok := Tp.n_ok ob 5
    generalize hz : Tp.n b.2 5 = z at sz oz
    refine ⟨_, _, sz, ?_⟩
    conv => whnf
    refine bcase_of (fun z0 => ?_) (fun z0 => ?_)
    · have z0 : (z.1 == 0) = true := z0
      conv => whnf
      have sp := pick_lit z.2 oz [0, 1, 10, 100] true (by decide)
      have op : (z.2.pick [0, 1, 10, 100]).2.ok := Tp.pick_ok oz _
      generalize hp : z.2.pick [0, 1, 10, 100] = p at sp op
      refine ⟨_, _, sp, ?_⟩
      conv => whnf
      have sq := pick_lit p.2 op [0, 20, 200, 1000000000] true (by decide)
      have oq : (p.2.pick [0, 20, 200, 1000000000]).2.ok := Tp.pick_ok op _
      generalize hq : p.2.pick [0, 20, 200, 1000000000] = q at sq oq
      refine ⟨_, _, sq, ?_⟩
      conv => whnf
      refine ⟨hp ▸ hq ▸ lim_i64 _ _, ?_⟩
      conv => whnf
      rw [limF_t hz z0 hp hq]
      exact ⟨⟨⟨rfl, rfl⟩, embV_le le_nil rfl, embV_le (le_lit1 _ _) rfl, ⟨rfl, rfl⟩, ⟨rfl, rfl⟩, trivial⟩, tape_emb rfl, trivial⟩
    · have z0 : (z.1 == 0) = false := z0
      conv => whnf
      rw [limF_f hz z0]
      exact ⟨⟨⟨rfl, rfl⟩, embV_le le_nil rfl, embV_le (le_lit1 _ _) rfl, ⟨rfl, rfl⟩, ⟨rfl, rfl⟩, trivial⟩, tape_emb rfl, trivial⟩
  · have k1 : (a.1 == 1) = false := k1
    conv => whnf
    refine bcase_of (fun k2 => ?_) (fun k2 => ?_)
    · have k2 : (a.1 == 2) = true := k2
      rw [k2]
      conv => whnf
      have sb := n_spec a.2 oa k (by unfold InI64; omega)
      have ob : (a.2.n k).2.ok := Tp.n_ok oa k
      generalize hb : a.2.n k = b at sb ob
      refine ⟨_, _, sb, ?_⟩
      conv => whnf
      have hr := Tp.range_mem b.2 1 4 (by omega)
      have sd := range_spec b.2 ob 1 4 (by omega)
      have od : (b.2.range 1 4).2.ok := Tp.range_ok ob 1 4
      generalize hd : b.2.range 1 4 = d at sd od hr
      refine ⟨_, _, sd, ?_⟩
      conv => whnf
      refine loops_intro (ct := []) cfgOK (by decide +kernel) (fun g : Nat × List Int × Tp => ⟨[(0, .ptr 0 0 0), (4, .ptr 1 0 0), (5, .ptr 2 0 0), (6, iV g.1)], [(0, some (tapeO g.2.2)), (1, some (.box [iV 0, .sl 0 0 true nilG, .sl 0 0 true nilG, iV 0, iV 0])), (2, some (.box [iV a.1, .osl 3 0 1 false, .osl 4 0 g.2.1.length false, iV 0, iV 0])), (3, some (.row 1 1 (rowG iV 0 [b.1]))), (4, some (.row 1 g.2.1.length (rowG iV 0 g.2.1)))], 5⟩)
        (fun g => g.2.1.length + g.1 ≤ 4 ∧ g.2.2.ok ∧ facN g.1 g.2.1 g.2.2 = facN d.1.toNat [] d.2) (fun g => g.1) (d.1.toNat, [], d.2) [(1, some 1), (2, some 6), (3, some 17), (4, none)] ⟨by show 0 + d.1.toNat ≤ 4; omega, od, rfl⟩
        ⟨rfl, ⟨⟨rfl, rfl, rfl, rfl⟩, ⟨rfl, rfl, rfl, rfl⟩, ⟨rfl, rfl, rfl, rfl⟩, ⟨rfl, by show d.1 = (d.1.toNat : Int); omega⟩, trivial⟩, ⟨tape_emb rfl, ⟨⟨rfl, rfl⟩, embV_le (.refl _) rfl, embV_le (.refl _) rfl, ⟨rfl, rfl⟩, ⟨rfl, rfl⟩, trivial⟩, ⟨⟨rfl, rfl⟩, ⟨rfl, rfl, rfl, rfl, nofun⟩, ⟨rfl, rfl, rfl, rfl, rfl⟩, ⟨rfl, rfl⟩, ⟨rfl, rfl⟩, trivial⟩, ⟨rfl, rfl, le_one _⟩, rfl, trivial⟩⟩ ?_
      intro ⟨r, acc, t2⟩ ⟨hb2, ht2, hg⟩
      have hb2 : acc.length + r ≤ 4 := hb2
      have ht2 : t2.ok := ht2
      have hg : facN r acc t2 = facN d.1.toNat [] d.2 := hg
      conv => whnf
      refine bcase_of (fun h2 => ?_) (fun h2 => ?_)
      · have hlt : 0 < r := by have h2 : decide ((0 : Int) < (r : Int)) = true := h2; have := of_decide_eq_true h2; omega
        obtain ⟨r, rfl⟩ : ∃ r', r = r' + 1 := ⟨r - 1, by omega⟩
        conv => whnf
        have sx := pick_lit t2 ht2 facL true (by decide)
        have ox : (t2.pick facL).2.ok := Tp.pick_ok ht2 facL
        generalize hx : t2.pick facL = x at sx ox
        refine ⟨_, _, sx, ?_⟩
        conv => whnf
        refine ⟨_, _, in_spec acc x.1 (by omega), ?_⟩
        conv => whnf
        refine bcase_of (fun h3 => ?_) (fun h3 => ?_)
        · have h3 : (!acc.contains x.1) = true := h3
          conv => whnf
          refine ⟨by show (acc.length + 1) * 8 ≤ 140737488355328; omega, ?_⟩
          conv => whnf
          refine ⟨by show InI64 (((r + 1 : Nat) : Int) - 1); unfold InI64; omega, ?_⟩
          conv => whnf
          refine ⟨(r, acc ++ [x.1], x.2), [(4, some 20)], ⟨by show (acc ++ [x.1]).length + r ≤ 4; rw [List.length_append]; simp; omega, ox, ?_⟩, by show r < r + 1; omega,
            ⟨rfl, ⟨⟨rfl, rfl, rfl, rfl⟩, ⟨rfl, rfl, rfl, rfl⟩, ⟨rfl, rfl, rfl, rfl⟩, ⟨rfl, by show ((r + 1 : Nat) : Int) - 1 = r; omega⟩, trivial⟩, ⟨tape_emb rfl, ⟨⟨rfl, rfl⟩, embV_le (.refl _) rfl, embV_le (.refl _) rfl, ⟨rfl, rfl⟩, ⟨rfl, rfl⟩, trivial⟩, ⟨⟨rfl, rfl⟩, ⟨rfl, rfl, rfl, rfl, nofun⟩, ⟨rfl, rfl, rfl, (by simp : acc.length + 1 = (acc ++ [_]).length), nofun⟩, ⟨rfl, rfl⟩, ⟨rfl, rfl⟩, trivial⟩, ⟨rfl, rfl, fun _ _ => .refl _⟩, ⟨rfl, (by simp : acc.length + 1 = (acc ++ [_]).length), le_app rfl (.refl _)⟩, trivial⟩⟩⟩
          show facN r (acc ++ [x.1]) x.2 = _
          rw [← hg, facN, hx, h3]
          rfl
        · have h3 : (!acc.contains x.1) = false := h3
          conv => whnf
          refine ⟨by show InI64 (((r + 1 : Nat) : Int) - 1); unfold InI64; omega, ?_⟩
          conv => whnf
          refine ⟨(r, acc, x.2), [], ⟨by show acc.length + r ≤ 4; omega, ox, ?_⟩, by show r < r + 1; omega,
            ⟨rfl, ⟨⟨rfl, rfl, rfl, rfl⟩, ⟨rfl, rfl, rfl, rfl⟩, ⟨rfl, rfl, rfl, rfl⟩, ⟨rfl, by show ((r + 1 : Nat) : Int) - 1 = r; omega⟩, trivial⟩, ⟨tape_emb rfl, ⟨⟨rfl, rfl⟩, embV_le (.refl _) rfl, embV_le (.refl _) rfl, ⟨rfl, rfl⟩, ⟨rfl, rfl⟩, trivial⟩, ⟨⟨rfl, rfl⟩, ⟨rfl, rfl, rfl, rfl, nofun⟩, ⟨rfl, rfl, rfl, rfl, nofun⟩, ⟨rfl, rfl⟩, ⟨rfl, rfl⟩, trivial⟩, ⟨rfl, rfl, fun _ _ => .refl _⟩, ⟨rfl, rfl, fun _ _ => .refl _⟩, trivial⟩⟩⟩
          show facN r acc x.2 = _
          rw [← hg, facN, hx, h3]
          rfl
      · have hlt : r = 0 := by have h2 : decide ((0 : Int) < (r : Int)) = false := h2; have := of_decide_eq_false h2; omega
        subst hlt
        have hg : (acc, t2) = facN d.1.toNat [] d.2 := hg
        conv => whnf
        have e : oneF t k = limF (⟨a.1, [b.1], acc, 0, 0⟩, t2) := by unfold oneF; rw [ha, k1, k2]; show limF (facF a.1 (a.2.n k).1 (facN ((a.2.n k).2.range 1 4).1.toNat [] ((a.2.n k).2.range 1 4).2)) = _; rw [hb, hd, ← hg]; rfl
        rw [e]
        have sz := n_spec t2 ht2 5 (by unfold InI64; omega)
        have oz : (Tp.n t2 5).2.ok := Tp.n_ok ht2 5
        generalize hz : Tp.n t2 5 = z at sz oz
        refine ⟨_, _, sz, ?_⟩
        conv => whnf
        refine bcase_of (fun z0 => ?_) (fun z0 => ?_)
        · have z0 : (z.1 == 0) = true := z0
          conv => whnf
          have sp := pick_lit z.2 oz [0, 1, 10, 100] true (by decide)
          have op : (z.2.pick [0, 1, 10, 100]).2.ok := Tp.pick_ok oz _
          generalize hp : z.2.pick [0, 1, 10, 100] = p at sp op
          refine ⟨_, _, sp, ?_⟩
          conv => whnf
          have sq := pick_lit p.2 op [0, 20, 200, 1000000000] true (by decide)
          have oq : (p.2.pick [0, 20, 200, 1000000000]).2.ok := Tp.pick_ok op _
          generalize hq : p.2.pick [0, 20, 200, 1000000000] = q at sq oq
          refine ⟨_, _, sq, ?_⟩
          conv => whnf
          refine ⟨hp ▸ hq ▸ lim_i64 _ _, ?_⟩
          conv => whnf
          rw [limF_t hz z0 hp hq]
          exact ⟨⟨⟨rfl, rfl⟩, embV_le (le_row rfl fun i hi => rfl) rfl, embV_le (le_row rfl fun i hi => rfl) rfl, ⟨rfl, rfl⟩, ⟨rfl, rfl⟩, trivial⟩, tape_emb rfl, trivial⟩
        · have z0 : (z.1 == 0) = false := z0
          conv => whnf
          rw [limF_f hz z0]
          exact ⟨⟨⟨rfl, rfl⟩, embV_le (le_row rfl fun i hi => rfl) rfl, embV_le (le_row rfl fun i hi => rfl) rfl, ⟨rfl, rfl⟩, ⟨rfl, rfl⟩, trivial⟩, tape_emb rfl, trivial⟩
    · have k2 : (a.1 == 2) = false := k2
      rw [k2]
      conv => whnf
      refine bcase_of (fun k3 => ?_) (fun k3 => ?_)
      · have k3 : (a.1 == 3) = true := k3
        conv => whnf
        have sb := n_spec a.2 oa k (by unfold InI64; omega)
        have ob : (a.2.n k).2.ok := Tp.n_ok oa k
        generalize hb : a.2.n k = b at sb ob
        refine ⟨_, _, sb, ?_⟩
        conv => whnf
        have hr := Tp.range_mem b.2 1 4 (by omega)
        have sd := range_spec b.2 ob 1 4 (by omega)
        have od : (b.2.range 1 4).2.ok := Tp.range_ok ob 1 4
        generalize hd : b.2.range 1 4 = d at sd od hr
        refine ⟨_, _, sd, ?_⟩
        conv => whnf
        refine loops_intro (ct := []) cfgOK (by decide +kernel) (fun g : Nat × List Int × Tp => ⟨[(0, .ptr 0 0 0), (4, .ptr 1 0 0), (5, .ptr 2 0 0), (6, iV g.1)], [(0, some (tapeO g.2.2)), (1, some (.box [iV 0, .sl 0 0 true nilG, .sl 0 0 true nilG, iV 0, iV 0])), (2, some (.box [iV a.1, .osl 3 0 1 false, .osl 4 0 g.2.1.length false, iV 0, iV 0])), (3, some (.row 1 1 (rowG iV 0 [b.1]))), (4, some (.row 1 g.2.1.length (rowG iV 0 g.2.1)))], 5⟩)
          (fun g => g.2.1.length + g.1 ≤ 4 ∧ g.2.2.ok ∧ facN g.1 g.2.1 g.2.2 = facN d.1.toNat [] d.2) (fun g => g.1) (d.1.toNat, [], d.2) [(1, some 1), (2, some 6), (3, some 19), (4, none)] ⟨by show 0 + d.1.toNat ≤ 4; omega, od, rfl⟩
          ⟨rfl, ⟨⟨rfl, rfl, rfl, rfl⟩, ⟨rfl, rfl, rfl, rfl⟩, ⟨rfl, rfl, rfl, rfl⟩, ⟨rfl, by show d.1 = (d.1.toNat : Int); omega⟩, trivial⟩, ⟨tape_emb rfl, ⟨⟨rfl, rfl⟩, embV_le (.refl _) rfl, embV_le (.refl _) rfl, ⟨rfl, rfl⟩, ⟨rfl, rfl⟩, trivial⟩, ⟨⟨rfl, rfl⟩, ⟨rfl, rfl, rfl, rfl, nofun⟩, ⟨rfl, rfl, rfl, rfl, rfl⟩, ⟨rfl, rfl⟩, ⟨rfl, rfl⟩, trivial⟩, ⟨rfl, rfl, le_one _⟩, rfl, trivial⟩⟩ ?_
        intro ⟨r, acc, t2⟩ ⟨hb2, ht2, hg⟩
        have hb2 : acc.length + r ≤ 4 := hb2
        have ht2 : t2.ok := ht2
        have hg : facN r acc t2 = facN d.1.toNat [] d.2 := hg
        conv => whnf
        refine bcase_of (fun h2 => ?_) (fun h2 => ?_)
        · have hlt : 0 < r := by have h2 : decide ((0 : Int) < (r : Int)) = true := h2; have := of_decide_eq_true h2; omega
          obtain ⟨r, rfl⟩ : ∃ r', r = r' + 1 := ⟨r - 1, by omega⟩
          conv => whnf
          have sx := pick_lit t2 ht2 facL true (by decide)
          have ox : (t2.pick facL).2.ok := Tp.pick_ok ht2 facL
          generalize hx : t2.pick facL = x at sx ox
          refine ⟨_, _, sx, ?_⟩
          conv => whnf
          refine ⟨_, _, in_spec acc x.1 (by omega), ?_⟩
          conv => whnf
          refine bcase_of (fun h3 => ?_) (fun h3 => ?_)
          · have h3 : (!acc.contains x.1) = true := h3
            conv => whnf
            refine ⟨by show (acc.length + 1) * 8 ≤ 140737488355328; omega, ?_⟩
            conv => whnf
            refine ⟨by show InI64 (((r + 1 : Nat) : Int) - 1); unfold InI64; omega, ?_⟩
            conv => whnf
            refine ⟨(r, acc ++ [x.1], x.2), [(4, some 20)], ⟨by show (acc ++ [x.1]).length + r ≤ 4; rw [List.length_append]; simp; omega, ox, ?_⟩, by show r < r + 1; omega,
              ⟨rfl, ⟨⟨rfl, rfl, rfl, rfl⟩, ⟨rfl, rfl, rfl, rfl⟩, ⟨rfl, rfl, rfl, rfl⟩, ⟨rfl, by show ((r + 1 : Nat) : Int) - 1 = r; omega⟩, trivial⟩, ⟨tape_emb rfl, ⟨⟨rfl, rfl⟩, embV_le (.refl _) rfl, embV_le (.refl _) rfl, ⟨rfl, rfl⟩, ⟨rfl, rfl⟩, trivial⟩, ⟨⟨rfl, rfl⟩, ⟨rfl, rfl, rfl, rfl, nofun⟩, ⟨rfl, rfl, rfl, (by simp : acc.length + 1 = (acc ++ [_]).length), nofun⟩, ⟨rfl, rfl⟩, ⟨rfl, rfl⟩, trivial⟩, ⟨rfl, rfl, fun _ _ => .refl _⟩, ⟨rfl, (by simp : acc.length + 1 = (acc ++ [_]).length), le_app rfl (.refl _)⟩, trivial⟩⟩⟩
            show facN r (acc ++ [x.1]) x.2 = _
            rw [← hg, facN, hx, h3]
            rfl
          · have h3 : (!acc.contains x.1) = false := h3
            conv => whnf
            refine ⟨by show InI64 (((r + 1 : Nat) : Int) - 1); unfold InI64; omega, ?_⟩
            conv => whnf
            refine ⟨(r, acc, x.2), [], ⟨by show acc.length + r ≤ 4; omega, ox, ?_⟩, by show r < r + 1; omega,
              ⟨rfl, ⟨⟨rfl, rfl, rfl, rfl⟩, ⟨rfl, rfl, rfl, rfl⟩, ⟨rfl, rfl, rfl, rfl⟩, ⟨rfl, by show ((r + 1 : Nat) : Int) - 1 = r; omega⟩, trivial⟩, ⟨tape_emb rfl, ⟨⟨rfl, rfl⟩, embV_le (.refl _) rfl, embV_le (.refl _) rfl, ⟨rfl, rfl⟩, ⟨rfl, rfl⟩, trivial⟩, ⟨⟨rfl, rfl⟩, ⟨rfl, rfl, rfl, rfl, nofun⟩, ⟨rfl, rfl, rfl, rfl, nofun⟩, ⟨rfl, rfl⟩, ⟨rfl, rfl⟩, trivial⟩, ⟨rfl, rfl, fun _ _ => .refl _⟩, ⟨rfl, rfl, fun _ _ => .refl _⟩, trivial⟩⟩⟩
            show facN r acc x.2 = _
            rw [← hg, facN, hx, h3]
            rfl
        · have hlt : r = 0 := by have h2 : decide ((0 : Int) < (r : Int)) = false := h2; have := of_decide_eq_false h2; omega
          subst hlt
          have hg : (acc, t2) = facN d.1.toNat [] d.2 := hg
          conv => whnf
          have e : oneF t k = limF (⟨a.1, [b.1], acc, 0, 0⟩, t2) := by unfold oneF; rw [ha, k1, k2, k3]; show limF (facF a.1 (a.2.n k).1 (facN ((a.2.n k).2.range 1 4).1.toNat [] ((a.2.n k).2.range 1 4).2)) = _; rw [hb, hd, ← hg]; rfl
          rw [e]
          have sz := n_spec t2 ht2 5 (by unfold InI64; omega)
          have oz : (Tp.n t2 5).2.ok := Tp.n_ok ht2 5
          generalize hz : Tp.n t2 5 = z at sz oz
          refine ⟨_, _, sz, ?_⟩
          conv => whnf
          refine bcase_of (fun z0 => ?_) (fun z0 => ?_)
          · have z0 : (z.1 == 0) = true := z0
            conv => whnf
            have sp := pick_lit z.2 oz [0, 1, 10, 100] true (by decide)
            have op : (z.2.pick [0, 1, 10, 100]).2.ok := Tp.pick_ok oz _
            generalize hp : z.2.pick [0, 1, 10, 100] = p at sp op
            refine ⟨_, _, sp, ?_⟩
            conv => whnf
            have sq := pick_lit p.2 op [0, 20, 200, 1000000000] true (by decide)
            have oq : (p.2.pick [0, 20, 200, 1000000000]).2.ok := Tp.pick_ok op _
            generalize hq : p.2.pick [0, 20, 200, 1000000000] = q at sq oq
            refine ⟨_, _, sq, ?_⟩
            conv => whnf
            refine ⟨hp ▸ hq ▸ lim_i64 _ _, ?_⟩
            conv => whnf
            rw [limF_t hz z0 hp hq]
            exact ⟨⟨⟨rfl, rfl⟩, embV_le (le_row rfl fun i hi => rfl) rfl, embV_le (le_row rfl fun i hi => rfl) rfl, ⟨rfl, rfl⟩, ⟨rfl, rfl⟩, trivial⟩, tape_emb rfl, trivial⟩
          · have z0 : (z.1 == 0) = false := z0
            conv => whnf
            rw [limF_f hz z0]
            exact ⟨⟨⟨rfl, rfl⟩, embV_le (le_row rfl fun i hi => rfl) rfl, embV_le (le_row rfl fun i hi => rfl) rfl, ⟨rfl, rfl⟩, ⟨rfl, rfl⟩, trivial⟩, tape_emb rfl, trivial⟩
      · have k3 : (a.1 == 3) = false := k3
        conv => whnf
        refine bcase_of (fun k4 => ?_) (fun k4 => ?_)
        · have k4 : (a.1 == 4) = true := k4
          conv => whnf
          have hr := Tp.range_mem a.2 1 3 (by omega)
          have sd := range_spec a.2 oa 1 3 (by omega)
          have od : (a.2.range 1 3).2.ok := Tp.range_ok oa 1 3
          generalize hd : a.2.range 1 3 = d at sd od hr
          refine ⟨_, _, sd, ?_⟩
          conv => whnf
          refine loops_intro (ct := []) cfgOK (by decide +kernel) (fun g : Nat × List Int × Tp => ⟨[(0, .ptr 0 0 0), (1, iV k), (4, .ptr 1 0 0), (5, .ptr 2 0 0), (8, iV g.1)], [(0, some (tapeO g.2.2)), (1, some (.box [iV 0, .sl 0 0 true nilG, .sl 0 0 true nilG, iV 0, iV 0])), (2, some (.box [iV a.1, .osl 3 0 g.2.1.length false, .sl 0 0 true nilG, iV 0, iV 0])), (3, some (.row 1 g.2.1.length (rowG iV 0 g.2.1)))], 4⟩)
            (fun g => g.2.1.length + g.1 = d.1.toNat ∧ g.2.2.ok ∧ parN k g.1 g.2.1 g.2.2 = parN k d.1.toNat [] d.2) (fun g => g.1) (d.1.toNat, [], d.2) [(1, some 1), (2, some 6), (3, none)] ⟨Nat.zero_add _, od, rfl⟩
            ⟨rfl, ⟨⟨rfl, rfl, rfl, rfl⟩, ⟨rfl, rfl⟩, ⟨rfl, rfl, rfl, rfl⟩, ⟨rfl, rfl, rfl, rfl⟩, ⟨rfl, by show d.1 = (d.1.toNat : Int); omega⟩, trivial⟩, ⟨tape_emb rfl, ⟨⟨rfl, rfl⟩, embV_le (.refl _) rfl, embV_le (.refl _) rfl, ⟨rfl, rfl⟩, ⟨rfl, rfl⟩, trivial⟩, ⟨⟨rfl, rfl⟩, ⟨rfl, rfl, rfl, rfl, rfl⟩, embV_le (.refl _) rfl, ⟨rfl, rfl⟩, ⟨rfl, rfl⟩, trivial⟩, rfl, trivial⟩⟩ ?_
          intro ⟨r, acc, t2⟩ ⟨hb2, ht2, hg⟩
          have hb2 : acc.length + r = d.1.toNat := hb2
          have ht2 : t2.ok := ht2
          have hg : parN k r acc t2 = parN k d.1.toNat [] d.2 := hg
          conv => whnf
          refine bcase_of (fun h2 => ?_) (fun h2 => ?_)
          · have hlt : 0 < r := by have h2 : decide ((0 : Int) < (r : Int)) = true := h2; have := of_decide_eq_true h2; omega
            obtain ⟨r, rfl⟩ : ∃ r', r = r' + 1 := ⟨r - 1, by omega⟩
            conv => whnf
            have sx := n_spec t2 ht2 k (by unfold InI64; omega)
            have ox : (t2.n k).2.ok := Tp.n_ok ht2 k
            generalize hx : t2.n k = x at sx ox
            refine ⟨_, _, sx, ?_⟩
            conv => whnf
            refine ⟨by show (acc.length + 1) * 8 ≤ 140737488355328; omega, ?_⟩
            conv => whnf
            refine ⟨by show InI64 (((r + 1 : Nat) : Int) - 1); unfold InI64; omega, ?_⟩
            conv => whnf
            refine ⟨(r, acc ++ [x.1], x.2), [(3, some 12)], ⟨by show (acc ++ [x.1]).length + r = d.1.toNat; rw [List.length_append]; simp; omega, ox, ?_⟩, by show r < r + 1; omega,
              ⟨rfl, ⟨⟨rfl, rfl, rfl, rfl⟩, ⟨rfl, rfl⟩, ⟨rfl, rfl, rfl, rfl⟩, ⟨rfl, rfl, rfl, rfl⟩, ⟨rfl, by show ((r + 1 : Nat) : Int) - 1 = r; omega⟩, trivial⟩, ⟨tape_emb rfl, ⟨⟨rfl, rfl⟩, embV_le (.refl _) rfl, embV_le (.refl _) rfl, ⟨rfl, rfl⟩, ⟨rfl, rfl⟩, trivial⟩, ⟨⟨rfl, rfl⟩, ⟨rfl, rfl, rfl, (by simp : acc.length + 1 = (acc ++ [_]).length), nofun⟩, embV_le (.refl _) rfl, ⟨rfl, rfl⟩, ⟨rfl, rfl⟩, trivial⟩, ⟨rfl, (by simp : acc.length + 1 = (acc ++ [_]).length), le_app rfl (.refl _)⟩, trivial⟩⟩⟩
            show parN k r (acc ++ [x.1]) x.2 = _
            rw [← hg, parN, hx]
          · have hlt : r = 0 := by have h2 : decide ((0 : Int) < (r : Int)) = false := h2; have := of_decide_eq_false h2; omega
            subst hlt
            have hg : (acc, t2) = parN k d.1.toNat [] d.2 := hg
            have hol : (ordG acc.length 0 [] t2).1.length = acc.length := by rw [ordG_len]; simp
            have so := order_spec t2 ht2 acc.length (by omega)
            have oo : (ordG acc.length 0 [] t2).2.ok := ordG_ok ht2 _ _ _
            generalize ho : ordG acc.length 0 [] t2 = o at so oo hol
            conv => whnf
            refine ⟨_, _, so, ?_⟩
            have hr2 := Tp.range_mem o.2 1 o.1.length (by omega)
            have sw := range_spec o.2 oo 1 o.1.length (by omega)
            have ow : (o.2.range 1 o.1.length).2.ok := Tp.range_ok oo 1 _
            generalize hw : o.2.range 1 o.1.length = w at sw ow hr2
            conv => whnf
            refine ⟨_, _, sw, ?_⟩
            conv => whnf
            refine ⟨by omega, ?_⟩
            conv => whnf
            have e : oneF t k = limF (⟨a.1, acc, (o.1.take w.1.toNat), 0, 0⟩, w.2) := by unfold oneF; rw [ha, k1, k2, k3, k4, hd, ← hg]; show limF (selF a.1 (acc, t2)) = _; unfold selF; rw [ho, hw]
            rw [e]
            have sz := n_spec w.2 ow 5 (by unfold InI64; omega)
            have oz : (Tp.n w.2 5).2.ok := Tp.n_ok ow 5
            generalize hz : Tp.n w.2 5 = z at sz oz
            refine ⟨_, _, sz, ?_⟩
            conv => whnf
            refine bcase_of (fun z0 => ?_) (fun z0 => ?_)
            · have z0 : (z.1 == 0) = true := z0
              conv => whnf
              have sp := pick_lit z.2 oz [0, 1, 10, 100] true (by decide)
              have op : (z.2.pick [0, 1, 10, 100]).2.ok := Tp.pick_ok oz _
              generalize hp : z.2.pick [0, 1, 10, 100] = p at sp op
              refine ⟨_, _, sp, ?_⟩
              conv => whnf
              have sq := pick_lit p.2 op [0, 20, 200, 1000000000] true (by decide)
              have oq : (p.2.pick [0, 20, 200, 1000000000]).2.ok := Tp.pick_ok op _
              generalize hq : p.2.pick [0, 20, 200, 1000000000] = q at sq oq
              refine ⟨_, _, sq, ?_⟩
              conv => whnf
              refine ⟨hp ▸ hq ▸ lim_i64 _ _, ?_⟩
              conv => whnf
              rw [limF_t hz z0 hp hq]
              exact ⟨⟨⟨rfl, rfl⟩, embV_le (le_row rfl fun i hi => rfl) rfl, embV_le (le_take (by omega) rfl) rfl, ⟨rfl, rfl⟩, ⟨rfl, rfl⟩, trivial⟩, tape_emb rfl, trivial⟩
            · have z0 : (z.1 == 0) = false := z0
              conv => whnf
              rw [limF_f hz z0]
              exact ⟨⟨⟨rfl, rfl⟩, embV_le (le_row rfl fun i hi => rfl) rfl, embV_le (le_take (by omega) rfl) rfl, ⟨rfl, rfl⟩, ⟨rfl, rfl⟩, trivial⟩, tape_emb rfl, trivial⟩
        · have k4 : (a.1 == 4) = false := k4
          conv => whnf
          have sb := n_spec a.2 oa k (by unfold InI64; omega)
          have ob : (a.2.n k).2.ok := Tp.n_ok oa k
          generalize hb : a.2.n k = b at sb ob
          refine ⟨_, _, sb, ?_⟩
          conv => whnf
          have e : oneF t k = limF (⟨a.1, [b.1], [0, 1], 0, 0⟩, b.2) := by unfold oneF; rw [ha, k1, k2, k3, k4, hb]; rfl
          rw [e]
          have sz := n_spec b.2 ob 5 (by unfold InI64; omega)
          have oz : (Tp.n b.2 5).2.ok := Tp.n_ok ob 5
          generalize hz : Tp.n b.2 5 = z at sz oz
          refine ⟨_, _, sz, ?_⟩
          conv => whnf
          refine bcase_of (fun z0 => ?_) (fun z0 => ?_)
          · have z0 : (z.1 == 0) = true := z0
            conv => whnf
            have sp := pick_lit z.2 oz [0, 1, 10, 100] true (by decide)
            have op : (z.2.pick [0, 1, 10, 100]).2.ok := Tp.pick_ok oz _
            generalize hp : z.2.pick [0, 1, 10, 100] = p at sp op
            refine ⟨_, _, sp, ?_⟩
            conv => whnf
            have sq := pick_lit p.2 op [0, 20, 200, 1000000000] true (by decide)
            have oq : (p.2.pick [0, 20, 200, 1000000000]).2.ok := Tp.pick_ok op _
            generalize hq : p.2.pick [0, 20, 200, 1000000000] = q at sq oq
            refine ⟨_, _, sq, ?_⟩
            conv => whnf
            refine ⟨hp ▸ hq ▸ lim_i64 _ _, ?_⟩
            conv => whnf
            rw [limF_t hz z0 hp hq]
            exact ⟨⟨⟨rfl, rfl⟩, embV_le (le_lit1 _ _) rfl, embV_le (le_lit [0, 1] _) rfl, ⟨rfl, rfl⟩, ⟨rfl, rfl⟩, trivial⟩, tape_emb rfl, trivial⟩
          · have z0 : (z.1 == 0) = false := z0
            conv => whnf
            rw [limF_f hz z0]
            exact ⟨⟨⟨rfl, rfl⟩, embV_le (le_lit1 _ _) rfl, embV_le (le_lit [0, 1] _) rfl, ⟨rfl, rfl⟩, ⟨rfl, rfl⟩, trivial⟩, tape_emb rfl, trivial⟩

end Go.Proofs.YtjmhlbogkeohpaaDoor

namespace Go.Proofs.YtjmhlbogkeohpaaDoor
open Go.Ab
set_option maxRecDepth 100000

theorem facN_len (n : Nat) (acc : List Int) (t : Tp) : (facN n acc t).1.length ≤ acc.length + n ∧ acc.length ≤ (facN n acc t).1.length := by
  induction n generalizing acc t with
  | zero => exact ⟨Nat.le_refl _, Nat.le_refl _⟩
  | succ n ih =>
    rw [facN]
    cases hb : !acc.contains (t.pick facL).1 with
    | true =>
      have := ih (acc ++ [(t.pick facL).1]) (t.pick facL).2
      rw [List.length_append] at this
      simp only [cond_true, List.length_singleton] at *
      omega
    | false =>
      have := ih acc (t.pick facL).2
      simp only [cond_false]
      omega

theorem facN_ok {t : Tp} (ht : t.ok) (n : Nat) (acc : List Int) : (facN n acc t).2.ok := by
  induction n generalizing acc t with
  | zero => exact ht
  | succ n ih => exact ih (Tp.pick_ok ht facL) _

theorem parN_len (k : Int) (n : Nat) (acc : List Int) (t : Tp) : (parN k n acc t).1.length = acc.length + n := by
  induction n generalizing acc t with
  | zero => rfl
  | succ n ih => rw [parN, ih]; simp; omega

theorem parN_ok (k : Int) {t : Tp} (ht : t.ok) (n : Nat) (acc : List Int) : (parN k n acc t).2.ok := by
  induction n generalizing acc t with
  | zero => exact ht
  | succ n ih => exact ih (Tp.n_ok ht k) _

theorem limF_get (c : Clk × Tp) : (limF c).1.kind = c.1.kind ∧ (limF c).1.par = c.1.par ∧ (limF c).1.ch = c.1.ch ∧ (c.2.ok → (limF c).2.ok) := by
  unfold limF
  cases (c.2.n 5).1 == 0 with
  | true => exact ⟨rfl, rfl, rfl, fun h => Tp.pick_ok (Tp.pick_ok (Tp.n_ok h 5) [0, 1, 10, 100]) [0, 20, 200, 1000000000]⟩
  | false => exact ⟨rfl, rfl, rfl, fun h => Tp.n_ok h 5⟩

theorem selF_ok (kind : Int) {e : List Int × Tp} (h : e.2.ok) : (selF kind e).2.ok := Tp.range_ok (ordG_ok h e.1.length 0 []) 1 (ordG e.1.length 0 [] e.2).1.length

/-- What is known of a made clock. -/
theorem one_get (t : Tp) (k : Int) : (oneF t k).1.ch.length ≤ 4 ∧ (oneF t k).1.par.length ≤ 3 ∧ (t.ok → (oneF t k).2.ok) ∧ ((oneF t k).1.kind = 1 → (oneF t k).1.ch.getD 0 0 ≤ 24000000) := by
  unfold oneF
  cases h1 : (t.pick kindL).1 == 1 with
  | true =>
    obtain ⟨e1, e2, e3, e4⟩ := limF_get (⟨(t.pick kindL).1, [], [((t.pick kindL).2.pick [10, 12, 32, 24000000]).1], 0, 0⟩, ((t.pick kindL).2.pick [10, 12, 32, 24000000]).2)
    simp only [cond_true]
    rw [e2, e3]
    refine ⟨by simp, by simp, fun h => e4 (Tp.pick_ok (Tp.pick_ok h kindL) [10, 12, 32, 24000000]), fun _ => ?_⟩
    have := Tp.pick_mem (t.pick kindL).2 [10, 12, 32, 24000000] (by decide)
    show ((t.pick kindL).2.pick [10, 12, 32, 24000000]).1 ≤ 24000000
    simp only [List.mem_cons, List.not_mem_nil, or_false] at this
    omega
  | false =>
    have n1 : (t.pick kindL).1 ≠ 1 := fun e => by rw [e] at h1; cases h1
    simp only [cond_false]
    cases h2 : ((t.pick kindL).1 == 2 || (t.pick kindL).1 == 3) with
    | true =>
      obtain ⟨e1, e2, e3, e4⟩ := limF_get (facF (t.pick kindL).1 ((t.pick kindL).2.n k).1 (facN (((t.pick kindL).2.n k).2.range 1 4).1.toNat [] (((t.pick kindL).2.n k).2.range 1 4).2))
      simp only [cond_true]
      rw [e1, e2, e3]
      have hr := Tp.range_mem ((t.pick kindL).2.n k).2 1 4 (by omega)
      have hf := facN_len (((t.pick kindL).2.n k).2.range 1 4).1.toNat [] (((t.pick kindL).2.n k).2.range 1 4).2
      refine ⟨?_, by show [_].length ≤ 3; simp, fun h => e4 (facN_ok (Tp.range_ok (Tp.n_ok (Tp.pick_ok h kindL) k) 1 4) _ _), fun e => absurd e n1⟩
      show (facN (((t.pick kindL).2.n k).2.range 1 4).1.toNat [] (((t.pick kindL).2.n k).2.range 1 4).2).1.length ≤ 4
      simp only [List.length_nil] at hf
      omega
    | false =>
      simp only [cond_false]
      cases h3 : (t.pick kindL).1 == 4 with
      | true =>
        obtain ⟨e1, e2, e3, e4⟩ := limF_get (selF (t.pick kindL).1 (parN k ((t.pick kindL).2.range 1 3).1.toNat [] ((t.pick kindL).2.range 1 3).2))
        simp only [cond_true]
        rw [e1, e2, e3]
        have hr := Tp.range_mem (t.pick kindL).2 1 3 (by omega)
        have hp := parN_len k ((t.pick kindL).2.range 1 3).1.toNat [] ((t.pick kindL).2.range 1 3).2
        simp only [List.length_nil, Nat.zero_add] at hp
        refine ⟨?_, ?_, fun h => e4 (selF_ok _ (parN_ok k (Tp.range_ok (Tp.pick_ok h kindL) 1 3) _ _)), fun e => absurd e n1⟩
        · unfold selF
          simp only [List.length_take, ordG_len, List.length_nil, hp]
          omega
        · show (parN k ((t.pick kindL).2.range 1 3).1.toNat [] ((t.pick kindL).2.range 1 3).2).1.length ≤ 3
          omega
      | false =>
        obtain ⟨e1, e2, e3, e4⟩ := limF_get (⟨(t.pick kindL).1, [((t.pick kindL).2.n k).1], [0, 1], 0, 0⟩, ((t.pick kindL).2.n k).2)
        simp only [cond_false]
        rw [e1, e2, e3]
        exact ⟨by simp, by simp, fun h => e4 (Tp.n_ok (Tp.pick_ok h kindL) k), fun e => absurd e n1⟩

def cloN (most : Int) : Nat → List Clk → Int → Tp → List Clk × Tp
  | 0, l, _, t => (l, t)
  | r + 1, l, p, t => bif decide (most < p * (oneF t l.length).1.ch.length) then cloN most r l p (oneF t l.length).2
    else bif checkF (l ++ [(oneF t l.length).1]) != 0 then cloN most r l p (oneF t l.length).2
    else cloN most r (l ++ [(oneF t l.length).1]) (p * (oneF t l.length).1.ch.length) (oneF t l.length).2
def cloF (t : Tp) (n most : Int) : List Clk × Tp :=
  cloN most ((t.pick [12, 24, 100, 24000000]).2.n n).1.toNat [⟨1, [], [(t.pick [12, 24, 100, 24000000]).1], 0, 0⟩] 1 ((t.pick [12, 24, 100, 24000000]).2.n n).2

theorem le_copy {α : Type} {f : α → AV} {d : α} {l : List α} {x : α} {h g : Nat → AV} {n m : Nat} (hn : n = 0) (hm : m = l.length) (h0 : Le (h 0) (f x)) (j : Nat) (hj : j < m + 1) : Le (appG m (appG n g (rowG f d l)) h j) (rowG f d (l ++ [x]) j) := by
  subst hn; subst hm
  by_cases h1 : j < l.length
  · rw [appG_l h1, appG_r (Nat.zero_le _)]
    unfold rowG
    rw [getD_app_l d h1]
    exact .refl _
  · have : j = l.length := by omega
    subst this
    rw [appG_r (Nat.le_refl _), Nat.sub_self]
    unfold rowG
    rw [getD_app_r d rfl]
    exact h0

theorem clocks_spec (t : Tp) (ht : t.ok) (n most : Int) (hn : 0 ≤ n ∧ n ≤ 100) (hm : 1 ≤ most ∧ most ≤ 100000) : S 8 [.ptr 0 0 0, iV n, iV most] [tapeO t] (clksV (cloF t n most).1) [tapeO (cloF t n most).2] := by
  refine spec_of_x (ct := []) cfgOK Tryd.func8 rfl rfl (Nat.le_of_ble_eq_true rfl) (by decide +kernel) (Nat.le_refl _) ?_
  conv => whnf
  have sa := pick_lit t ht [12, 24, 100, 24000000] true (by decide)
  have oa : (t.pick [12, 24, 100, 24000000]).2.ok := Tp.pick_ok ht _
  unfold cloF
  generalize ha : t.pick [12, 24, 100, 24000000] = a at sa oa
  refine ⟨_, _, sa, ?_⟩
  conv => whnf
  have sb := n_spec a.2 oa n (by unfold InI64; omega)
  have ob : (a.2.n n).2.ok := Tp.n_ok oa n
  have hb := Tp.n_lt a.2 n
  generalize hbe : a.2.n n = b at sb ob hb
  refine ⟨_, _, sb, ?_⟩
  conv => whnf
  refine loops_intro (ct := []) cfgOK (by decide +kernel) (fun g : Nat × List Clk × Int × Tp => ⟨[(0, .ptr 0 0 0), (2, iV most), (7, .osl 1 0 g.2.1.length false), (8, iV g.2.2.1), (9, iV g.1)], [(0, some (tapeO g.2.2.2)), (1, some (.row 5 g.2.1.length (rowG clkV clk0 g.2.1)))], 2⟩)
    (fun g => g.2.1.length + g.1 ≤ 200 ∧ (1 ≤ g.2.2.1 ∨ g.2.2.1 = 0) ∧ g.2.2.1 ≤ most ∧ g.2.2.2.ok ∧ cloN most g.1 g.2.1 g.2.2.1 g.2.2.2 = cloN most b.1.toNat [⟨1, [], [a.1], 0, 0⟩] 1 b.2) (fun g => g.1) (b.1.toNat, [⟨1, [], [a.1], 0, 0⟩], 1, b.2) [(1, some 7)]
    ⟨by show 1 + b.1.toNat ≤ 200; omega, .inl (Int.le_refl _), hm.1, ob, rfl⟩
    ⟨rfl, ⟨⟨rfl, rfl, rfl, rfl⟩, ⟨rfl, rfl⟩, ⟨rfl, rfl, rfl, rfl, nofun⟩, ⟨rfl, rfl⟩, ⟨rfl, by show b.1 = (b.1.toNat : Int); omega⟩, trivial⟩, ⟨tape_emb rfl, ⟨rfl, rfl, fun i hi => ?_⟩, trivial⟩⟩ ?_
  · cases i with
    | succ i => omega
    | zero =>
      have q : LeL [iV 1, .sl 0 0 true nilG, .sl 1 1 true (listG [iV a.1]), iV 0, iV 0] (clkV ⟨1, [], [a.1], 0, 0⟩).cells := ⟨.refl _, le_nil, le_lit1 a.1 true, .refl _, .refl _, trivial⟩
      exact .agg (leL_spec _ _ q).1 (leL_spec _ _ q).2
  intro ⟨r, l, p, t2⟩ ⟨g1, g2, g3, ht2, hg⟩
  have g1 : l.length + r ≤ 200 := g1
  have g2 : 1 ≤ p ∨ p = 0 := g2
  have g3 : p ≤ most := g3
  have ht2 : t2.ok := ht2
  have hg : cloN most r l p t2 = cloN most b.1.toNat [⟨1, [], [a.1], 0, 0⟩] 1 b.2 := hg
  conv => whnf
  refine bcase_of (fun h2 => ?_) (fun h2 => ?_)
  · have hlt : 0 < r := by have h2 : decide ((0 : Int) < (r : Int)) = true := h2; have := of_decide_eq_true h2; omega
    obtain ⟨r, rfl⟩ : ∃ r', r = r' + 1 := ⟨r - 1, by omega⟩
    conv => whnf
    have sc := one_spec t2 ht2 l.length (by omega)
    obtain ⟨c1, c2, c3, c4⟩ := one_get t2 l.length
    have oc := c3 ht2
    rw [cloN] at hg
    generalize hce : oneF t2 l.length = c at sc c1 c2 oc hg
    refine ⟨_, _, sc, ?_⟩
    conv => whnf
    have hpm : 0 ≤ p * (c.1.ch.length : Int) ∧ p * (c.1.ch.length : Int) ≤ 100000 * 4 := ⟨Int.mul_nonneg (by omega) (by omega), Int.mul_le_mul (by omega) (by omega) (by omega) (by omega)⟩
    refine ⟨by show InI64 (p * (c.1.ch.length : Int)); unfold InI64; omega, ?_⟩
    conv => whnf
    refine bcase_of (fun h3 => ?_) (fun h3 => ?_)
    · have h3 : decide (most < p * (c.1.ch.length : Int)) = true := h3
      conv => whnf
      refine ⟨by show InI64 (((r + 1 : Nat) : Int) - 1); unfold InI64; omega, ?_⟩
      conv => whnf
      refine ⟨(r, l, p, c.2), [], ⟨by show l.length + r ≤ 200; omega, g2, g3, oc, ?_⟩, by show r < r + 1; omega, ⟨rfl, ⟨⟨rfl, rfl, rfl, rfl⟩, ⟨rfl, rfl⟩, ⟨rfl, rfl, rfl, rfl, nofun⟩, ⟨rfl, rfl⟩, ⟨rfl, by show ((r + 1 : Nat) : Int) - 1 = r; omega⟩, trivial⟩, ⟨tape_emb rfl, ⟨rfl, rfl, fun _ _ => .refl _⟩, trivial⟩⟩⟩
      rw [h3] at hg
      exact hg
    · have h3 : decide (most < p * (c.1.ch.length : Int)) = false := h3
      rw [h3] at hg
      conv => whnf
      refine ⟨by show (0 + l.length) * 72 ≤ 140737488355328; omega, ?_⟩
      conv => whnf
      refine ⟨by show (0 + l.length + 1) * 72 ≤ 140737488355328; omega, ?_⟩
      conv => whnf
      refine ⟨_, _, (rcheck_spec (l ++ [c.1]) (by simp; omega)).le ⟨.sl (by simp) (fun _ => rfl) nofun (fun j hj => le_copy (f := clkV) (d := clk0) (l := l) (x := c.1) (h := listG [clkV c.1]) (g := listG []) rfl (Nat.zero_add _) (.refl _) j hj), trivial⟩ trivial, ?_⟩
      conv => whnf
      refine bcase_of (fun h4 => ?_) (fun h4 => ?_)
      · have h4 : (checkF (l ++ [c.1]) != 0) = true := h4
        rw [h4] at hg
        conv => whnf
        refine ⟨by show InI64 (((r + 1 : Nat) : Int) - 1); unfold InI64; omega, ?_⟩
        conv => whnf
        exact ⟨(r, l, p, c.2), [], ⟨by show l.length + r ≤ 200; omega, g2, g3, oc, hg⟩, by show r < r + 1; omega, ⟨rfl, ⟨⟨rfl, rfl, rfl, rfl⟩, ⟨rfl, rfl⟩, ⟨rfl, rfl, rfl, rfl, nofun⟩, ⟨rfl, rfl⟩, ⟨rfl, by show ((r + 1 : Nat) : Int) - 1 = r; omega⟩, trivial⟩, ⟨tape_emb rfl, ⟨rfl, rfl, fun _ _ => .refl _⟩, trivial⟩⟩⟩
      · have h4 : (checkF (l ++ [c.1]) != 0) = false := h4
        rw [h4] at hg
        conv => whnf
        refine ⟨by show InI64 (p * (c.1.ch.length : Int)); unfold InI64; omega, ?_⟩
        conv => whnf
        refine ⟨by show (l.length + 1) * 72 ≤ 140737488355328; omega, ?_⟩
        conv => whnf
        refine ⟨by show InI64 (((r + 1 : Nat) : Int) - 1); unfold InI64; omega, ?_⟩
        conv => whnf
        refine ⟨(r, l ++ [c.1], p * c.1.ch.length, c.2), [(1, some 34)], ⟨by show (l ++ [c.1]).length + r ≤ 200; simp; omega, by show 1 ≤ p * (c.1.ch.length : Int) ∨ p * (c.1.ch.length : Int) = 0; omega, by show p * (c.1.ch.length : Int) ≤ most; have := of_decide_eq_false h3; omega, oc, hg⟩, by show r < r + 1; omega, ⟨rfl, ⟨⟨rfl, rfl, rfl, rfl⟩, ⟨rfl, rfl⟩, ⟨rfl, rfl, rfl, (by simp : l.length + 1 = (l ++ [_]).length), nofun⟩, ⟨rfl, rfl⟩, ⟨rfl, by show ((r + 1 : Nat) : Int) - 1 = r; omega⟩, trivial⟩, ⟨tape_emb rfl, ⟨rfl, (by simp : l.length + 1 = (l ++ [_]).length), le_app rfl (.refl _)⟩, trivial⟩⟩⟩
  · have hlt : r = 0 := by have h2 : decide ((0 : Int) < (r : Int)) = false := h2; have := of_decide_eq_false h2; omega
    subst hlt
    have hg : (l, t2) = cloN most b.1.toNat [⟨1, [], [a.1], 0, 0⟩] 1 b.2 := hg
    rw [← hg]
    conv => whnf
    exact ⟨embV_le (.refl _) rfl, tape_emb rfl, trivial⟩

end Go.Proofs.YtjmhlbogkeohpaaDoor

namespace Go.Proofs.YtjmhlbogkeohpaaDoor
open Go.Ab
set_option maxRecDepth 100000

def fourL : List Clk := [⟨1, [], [24000000], 0, 0⟩, ⟨3, [0], [10], 0, 0⟩, ⟨2, [1], [2, 3], 0, 0⟩, ⟨5, [2], [0, 1], 0, 0⟩]

theorem leAgg {cs cs' : List AV} (h : LeL cs cs') : Le (.agg cs) (.agg cs') := .agg (leL_spec _ _ h).1 (leL_spec _ _ h).2

theorem le_clk (k : Int) (p c : List Int) (lo hi : Int) {u v : AV} (h1 : Le u (intsV p)) (h2 : Le v (intsV c)) : Le (.agg [iV k, u, v, iV lo, iV hi]) (clkV ⟨k, p, c, lo, hi⟩) := leAgg ⟨.refl _, h1, h2, .refl _, .refl _, trivial⟩

theorem four_spec : S 48 [] [] (clksV fourL) [] := by
  refine spec_of_x (ct := []) cfgOK Tryd.func48 rfl rfl (Nat.le_of_ble_eq_true rfl) (by decide +kernel) (Nat.le_refl _) ?_
  conv => whnf
  refine ⟨embV_le (.sl rfl (fun _ => rfl) nofun fun i hi => ?_) rfl, trivial⟩
  match i, hi with
  | 0, _ => exact le_clk 1 [] [24000000] 0 0 le_nil (le_lit [24000000] true)
  | 1, _ => exact le_clk 3 [0] [10] 0 0 (le_lit [0] true) (le_lit [10] true)
  | 2, _ => exact le_clk 2 [1] [2, 3] 0 0 (le_lit [1] true) (le_lit [2, 3] true)
  | 3, _ => exact le_clk 5 [2] [0, 1] 0 0 (le_lit [2] true) (le_lit [0, 1] true)

theorem four_rates : ratesE fourL [0, 0, 1, 1] = ([⟨24000000, 1⟩, ⟨240000000, 1⟩, ⟨80000000, 1⟩, ⟨80000000, 1⟩], 0) := by decide +kernel
theorem four_meets : meetsF fourL [0, 0, 1, 1] [⟨3, 1, 80000000⟩] = true := by decide +kernel
theorem four_meets' : meetsF fourL [0, 0, 1, 0] [⟨3, 0, 80000000⟩] = false := by decide +kernel

theorem four_check : checkF fourL = 0 := by decide +kernel
theorem le_lim1 (x : Lim) (f : Bool) : Le (.sl 3 1 f (listG [limV x])) (limsV [x]) := .sl rfl (fun _ => rfl) nofun fun i hi => by
  cases i with
  | zero => exact .refl _
  | succ i => omega

theorem awake_spec : S 17 [] [] (.bool true) [] := by
  refine spec_of_x (ct := []) cfgOK Tryd.func17 rfl rfl (Nat.le_of_ble_eq_true rfl) (by decide +kernel) (Nat.le_refl _) ?_
  conv => whnf
  refine ⟨_, _, four_spec, ?_⟩
  conv => whnf
  have s1 := rates_all_spec fourL [0, 0, 1, 1] (by decide)
  rw [four_rates] at s1
  refine ⟨_, _, s1.le ⟨.refl _, le_lit [0, 0, 1, 1] true, trivial⟩ trivial, ?_⟩
  conv => whnf
  refine ⟨fun _ => by decide, ?_⟩
  conv => whnf
  refine ⟨fun _ => by decide, ?_⟩
  conv => whnf
  refine ⟨_, _, four_spec, ?_⟩
  conv => whnf
  have s2 := meets_spec fourL [0, 0, 1, 1] [⟨3, 1, 80000000⟩] (by decide) (by decide) (chOK_fine (fine_of four_check))
  rw [four_meets] at s2
  refine ⟨_, _, fun _ => s2.le ⟨.refl _, le_lit [0, 0, 1, 1] true, le_lim1 ⟨3, 1, 80000000⟩ true, trivial⟩ trivial, ?_⟩
  conv => whnf
  refine ⟨_, _, four_spec, ?_⟩
  conv => whnf
  have s3 := meets_spec fourL [0, 0, 1, 0] [⟨3, 0, 80000000⟩] (by decide) (by decide) (chOK_fine (fine_of four_check))
  rw [four_meets'] at s3
  refine ⟨_, _, fun _ => s3.le ⟨.refl _, le_lit [0, 0, 1, 0] true, le_lim1 ⟨3, 0, 80000000⟩ true, trivial⟩ trivial, ?_⟩
  conv => whnf
  exact ⟨rfl, trivial⟩

end Go.Proofs.YtjmhlbogkeohpaaDoor

namespace Go.Proofs.YtjmhlbogkeohpaaDoor
open Go.Ab
set_option maxRecDepth 100000

/-! Rates as plain fractions -/

def red (a b : Nat) : Rt := ⟨((a / Nat.gcd a b : Nat) : Int), ((b / Nat.gcd a b : Nat) : Int)⟩

theorem red_valid (a b : Nat) (hb : 0 < b) (ha' : a ≤ 144115188075855872) (hb' : b ≤ 16777216) : validR (red a b) = true := by
  have g0 : 0 < Nat.gcd a b := Nat.gcd_pos_of_pos_right a hb
  have h1 : a / Nat.gcd a b ≤ a := Nat.div_le_self _ _
  have h2 : b / Nat.gcd a b ≤ b := Nat.div_le_self _ _
  have h3 : 0 < b / Nat.gcd a b := Nat.div_pos (Nat.le_of_dvd hb (Nat.gcd_dvd_right _ _)) g0
  have h4 : Nat.gcd (a / Nat.gcd a b) (b / Nat.gcd a b) = 1 := by
    rw [Nat.gcd_div (Nat.gcd_dvd_left _ _) (Nat.gcd_dvd_right _ _), Nat.div_self g0]
  unfold validR red gcdI
  simp only [Int.toNat_natCast, h4]
  generalize a / Nat.gcd a b = n at *
  generalize b / Nat.gcd a b = d at *
  simp
  omega

theorem newR_red (a b : Nat) (hb : 0 < b) (ha' : a ≤ 144115188075855872) (hb' : b ≤ 16777216) : newR a b = (red a b, 0) := by
  have hv := red_valid a b hb ha' hb'
  have e1 : gcdI (a : Int) (b : Int) = (Nat.gcd a b : Nat) := by unfold gcdI; rw [Int.toNat_natCast, Int.toNat_natCast]
  have e2 : (⟨(a : Int).tdiv (gcdI a b), (b : Int).tdiv (gcdI a b)⟩ : Rt) = red a b := by
    rw [e1, ← Int.ofNat_tdiv, ← Int.ofNat_tdiv]
    rfl
  unfold newR
  have c : (decide ((a : Int) < 0) || decide ((b : Int) < 1)) = false := by simp; omega
  rw [c, e2, hv]
  rfl

theorem red_parts (a b : Nat) (hb : 0 < b) : ∃ g n d : Nat, 0 < g ∧ 0 < d ∧ g * n = a ∧ g * d = b ∧ red a b = ⟨n, d⟩ ∧ n ≤ a ∧ d ≤ b := by
  have g0 : 0 < Nat.gcd a b := Nat.gcd_pos_of_pos_right a hb
  refine ⟨Nat.gcd a b, a / Nat.gcd a b, b / Nat.gcd a b, g0, Nat.div_pos (Nat.le_of_dvd hb (Nat.gcd_dvd_right _ _)) g0, Nat.mul_div_cancel' (Nat.gcd_dvd_left _ _), Nat.mul_div_cancel' (Nat.gcd_dvd_right _ _), rfl, Nat.div_le_self _ _, Nat.div_le_self _ _⟩

theorem factorB_t {k : Int} (h : 1 ≤ k ∧ k ≤ 64) : factorB k = true := by
  unfold factorB
  simp
  omega

theorem over_red (a b : Nat) (k : Int) (hb : 0 < b) (hk : 1 ≤ k ∧ k ≤ 64) (ha' : a ≤ 144115188075855872) (hb' : b * k.toNat ≤ 16777216) : overR (red a b) k = (red a (b * k.toNat), 0) := by
  have hbk : b ≤ b * k.toNat := Nat.le_mul_of_pos_right _ (by omega)
  have hv := red_valid a b hb ha' (by omega)
  unfold overR
  rw [hv, factorB_t hk]
  simp only [Bool.not_true, cond_false]
  obtain ⟨g, n, d, g0, d0, e1, e2, e3, _, _⟩ := red_parts a b hb
  rw [e3]
  have hkk : k = (k.toNat : Int) := by omega
  have hm := newR_mul g n (d * k.toNat) g0 (Nat.mul_pos d0 (by omega))
  rw [e1, ← Nat.mul_assoc, e2] at hm
  show newR (n : Int) ((d : Int) * k) = _
  rw [hkk, ← Int.natCast_mul, ← hm, Int.toNat_natCast]
  exact newR_red a (b * k.toNat) (by omega) ha' hb'

theorem times_red (a b : Nat) (k : Int) (hb : 0 < b) (hk : 1 ≤ k ∧ k ≤ 64) (ha' : a * k.toNat ≤ 144115188075855872) (hb' : b ≤ 16777216) : timesR (red a b) k = (red (a * k.toNat) b, 0) := by
  have hak : a ≤ a * k.toNat := Nat.le_mul_of_pos_right _ (by omega)
  have hv := red_valid a b hb (by omega) hb'
  unfold timesR
  rw [hv, factorB_t hk]
  simp only [Bool.not_true, cond_false]
  obtain ⟨g, n, d, g0, d0, e1, e2, e3, e4, e5⟩ := red_parts a b hb
  rw [e3]
  obtain ⟨k, rfl⟩ := Int.eq_ofNat_of_zero_le (show 0 ≤ k by omega)
  have hk0 : 0 < k := by omega
  have eg : gcdI ((k : Nat) : Int) ((d : Nat) : Int) = (Nat.gcd k d : Nat) := by unfold gcdI; rw [Int.toNat_natCast, Int.toNat_natCast]
  have q0 : 0 < Nat.gcd k d := Nat.gcd_pos_of_pos_left d hk0
  have qk : Nat.gcd k d * (k / Nat.gcd k d) = k := Nat.mul_div_cancel' (Nat.gcd_dvd_left _ _)
  have qd : Nat.gcd k d * (d / Nat.gcd k d) = d := Nat.mul_div_cancel' (Nat.gcd_dvd_right _ _)
  have qk0 : 0 < k / Nat.gcd k d := Nat.div_pos (Nat.le_of_dvd hk0 (Nat.gcd_dvd_left _ _)) q0
  have qd0 : 0 < d / Nat.gcd k d := Nat.div_pos (Nat.le_of_dvd d0 (Nat.gcd_dvd_right _ _)) q0
  have qkk : k / Nat.gcd k d ≤ k := Nat.div_le_self _ _
  simp only [Int.toNat_natCast] at ha' ⊢
  rw [eg, ← Int.ofNat_tdiv, ← Int.ofNat_tdiv]
  have hc : decide ((144115188075855872 : Int).tdiv ((k / Nat.gcd k d : Nat) : Int) < (n : Int)) = false := by
    apply decide_eq_false
    have : n ≤ 144115188075855872 / (k / Nat.gcd k d) := by
      rw [Nat.le_div_iff_mul_le qk0]
      exact Nat.le_trans (Nat.mul_le_mul e4 qkk) ha'
    have e : (144115188075855872 : Int).tdiv ((k / Nat.gcd k d : Nat) : Int) = ((144115188075855872 / (k / Nat.gcd k d) : Nat) : Int) := by
      rw [Int.ofNat_tdiv]
      rfl
    rw [e]
    omega
  rw [hc]
  simp only [cond_false]
  rw [← Int.natCast_mul]
  have m1 := newR_mul (Nat.gcd k d) (n * (k / Nat.gcd k d)) (d / Nat.gcd k d) q0 qd0
  rw [Nat.mul_left_comm, qk, qd] at m1
  have m2 := newR_mul g (n * k) d g0 d0
  rw [← Nat.mul_assoc, e1, e2] at m2
  rw [← m1, ← m2]
  exact newR_red (a * k) b hb ha' hb'

theorem red_one (a : Nat) : red a 1 = ⟨a, 1⟩ := by
  unfold red
  rw [Nat.gcd_one_right, Nat.div_one, Nat.div_one]
  rfl

theorem red_pos (a b : Nat) (ha : 0 < a) : 0 < (red a b).num := by
  have : 0 < a / Nat.gcd a b := Nat.div_pos (Nat.le_of_dvd ha (Nat.gcd_dvd_left _ _)) (Nat.gcd_pos_of_pos_left b ha)
  show (0 : Int) < ((a / Nat.gcd a b : Nat) : Int)
  omega

theorem red_on (a b : Nat) (ha : 0 < a) : isOff (red a b) = false := by
  have := red_pos a b ha
  unfold isOff
  have : ((red a b).num == 0) = false := by
    rw [← Bool.not_eq_true]
    intro e
    have := eq_of_beq e
    omega
  rw [this]
  rfl

theorem off_times (k : Int) (hk : 1 ≤ k ∧ k ≤ 64) : timesR offR k = (offR, 0) := by
  have h := times_red 0 1 k (by decide) hk (by simp) (by decide)
  rw [Nat.zero_mul] at h
  exact h

theorem off_over (k : Int) (hk : 1 ≤ k ∧ k ≤ 64) : overR offR k = (offR, 0) := by
  have h := over_red 0 1 k (by decide) hk (by decide) (by omega)
  have e : red 0 (1 * k.toNat) = offR := by
    unfold red offR
    rw [Nat.gcd_zero_left, Nat.zero_div, Nat.one_mul, Nat.div_self (by omega)]
    rfl
  rw [e] at h
  exact h

/-! The equations of the rates and of the factors -/

theorem ratesN_pre (l : List Clk) (s : List Int) (n j : Nat) (h : j < n) : (ratesN l s n).getD j rt0 = rt1 (ratesN l s j) (l.getD j clk0) (s.getD j 0) := by
  induction n with
  | zero => omega
  | succ n ih =>
    rw [ratesN]
    by_cases hj : j < n
    · rw [getD_app_l _ (by rw [ratesN_len]; exact hj)]
      exact ih hj
    · have : j = n := by omega
      subst this
      rw [getD_app_r _ (ratesN_len l s j).symm]

theorem rt1_congr {acc acc' : List Rt} {c : Clk} {k : Int} (h : 0 ≤ parF c k → acc.getD (parF c k).toNat rt0 = acc'.getD (parF c k).toNat rt0) : rt1 acc c k = rt1 acc' c k := by
  unfold rt1
  by_cases hp : parF c k < 0
  · rw [decide_eq_true hp]; rfl
  · rw [h (by omega)]

theorem ratesF_eq {l : List Clk} {s : List Int} (h : Good l s) (j : Nat) (hj : j < l.length) : (ratesF l s).getD j rt0 = rt1 (ratesF l s) (l.getD j clk0) (s.getD j 0) := by
  unfold ratesF
  rw [ratesN_pre l s l.length j hj]
  refine rt1_congr fun h0 => ?_
  have := h.par j hj
  rw [ratesN_pre l s l.length _ (by omega), ratesN_pre l s j _ (by omega)]

theorem parMax_ge (acc : List Int) (l : List Int) (p : Int) (hp : p ∈ l) : acc.getD p.toNat 0 ≤ parMax acc l := by
  have mono : ∀ (l : List Int) (n : Int), n ≤ l.foldl (fun n p => maxI n (acc.getD p.toNat 0)) n := by
    intro l
    induction l with
    | nil => intro n; exact Int.le_refl _
    | cons q r ih =>
      intro n
      have := ih (maxI n (acc.getD q.toNat 0))
      have h2 : n ≤ maxI n (acc.getD q.toNat 0) := by unfold maxI; split <;> omega
      exact Int.le_trans h2 this
  have key : ∀ (l : List Int) (n : Int), p ∈ l → acc.getD p.toNat 0 ≤ l.foldl (fun n p => maxI n (acc.getD p.toNat 0)) n := by
    intro l
    induction l with
    | nil => intro n h; cases h
    | cons q r ih =>
      intro n h
      rcases List.mem_cons.1 h with rfl | h
      · have := mono r (maxI n (acc.getD p.toNat 0))
        have h2 : acc.getD p.toNat 0 ≤ maxI n (acc.getD p.toNat 0) := by unfold maxI; split <;> omega
        exact Int.le_trans h2 this
      · exact ih _ h
  exact key l 0 hp

theorem facs_eq {l : List Clk} (hp : ParOK l) (j : Nat) (hj : j < l.length) : ∀ p ∈ (l.getD j clk0).par, (facs l).getD p.toNat 0 + (bif isDM (l.getD j clk0) then 1 else 0) ≤ (facs l).getD j 0 := by
  intro p hpm
  have hpj := (hp j hj).2 p hpm
  have e1 : (facs l).getD j 0 = fac1 (facs (l.take j)) (l.getD j clk0) := by
    rw [facs_take l (j + 1) j (by omega) hj, take_snoc clk0 hj, facs_snoc, getD_app_r _ (by rw [(facs_len_bound _).1, take_len (by omega)])]
  have e2 : (facs l).getD p.toNat 0 = (facs (l.take j)).getD p.toNat 0 := facs_take l j p.toNat (by omega) (by omega)
  have := parMax_ge (facs (l.take j)) (l.getD j clk0).par p hpm
  rw [e1, e2]
  unfold fac1
  cases isDM (l.getD j clk0) <;> simp only [cond_true, cond_false] <;> omega

end Go.Proofs.YtjmhlbogkeohpaaDoor
