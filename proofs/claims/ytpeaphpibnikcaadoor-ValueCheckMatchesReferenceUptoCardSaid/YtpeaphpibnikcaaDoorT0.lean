/- (What stood here stands in the layer, part 31.) -/
import Derived.Test.YtpeaphpibnikcaaDoorB3
