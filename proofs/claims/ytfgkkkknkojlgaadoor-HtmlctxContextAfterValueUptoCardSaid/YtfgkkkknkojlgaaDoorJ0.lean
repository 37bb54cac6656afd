/- What the automaton stands on. -/
import Derived.Test.YtfgkkkknkojlgaaDoorJH
